/- The walk of GaugeOrder: it answers true. -/
import Derived.Test.YtjjacehacfbolaaWalks
namespace Go.Proofs.Ytjjacehacfbolaa
open Go.RowKit

theorem ge0 {b : Nat} (h : Rnd.good b = true) : (FloatKind.f32.format.order b 0 == some .gt || FloatKind.f32.format.order b 0 == some .eq) = true := by
  have := fgood (b := b) (Rnd.good_lt h)
  rw [h, Bool.and_eq_true] at this
  exact this.1
theorem le1 {b : Nat} (h : Rnd.good b = true) : (FloatKind.f32.format.order b 1065353216 == some .lt || FloatKind.f32.format.order b 1065353216 == some .eq) = true := by
  have := fgood (b := b) (Rnd.good_lt h)
  rw [h, Bool.and_eq_true] at this
  exact this.2
theorem ford {a b : Nat} (ha : Rnd.good a = true) (hb : Rnd.good b = true) : FloatKind.f32.format.order a b = some (compare (Rnd.rung a) (Rnd.rung b)) := Rnd.order_good ha hb
theorem cmp_ne_gt {x y : Nat} (h : x ≤ y) : (some (compare x y) == some Ordering.gt) = false := by
  rcases Nat.lt_or_eq_of_le h with h | rfl
  · rw [Nat.compare_eq_lt.2 h]; rfl
  · rw [Nat.compare_eq_eq.2 rfl]; rfl
theorem cmp_le {x y : Nat} : (some (compare x y) == some Ordering.lt || some (compare x y) == some Ordering.eq) = decide (x ≤ y) := by
  rcases Nat.lt_trichotomy x y with h | rfl | h
  · rw [Nat.compare_eq_lt.2 h]; simp; omega
  · rw [Nat.compare_eq_eq.2 rfl]; simp
  · rw [Nat.compare_eq_gt.2 h]; simp; omega
theorem cmp_ge {x y : Nat} : (some (compare x y) == some Ordering.gt || some (compare x y) == some Ordering.eq) = decide (y ≤ x) := by
  rcases Nat.lt_trichotomy x y with h | rfl | h
  · rw [Nat.compare_eq_lt.2 h]; simp; omega
  · rw [Nat.compare_eq_eq.2 rfl]; simp
  · rw [Nat.compare_eq_gt.2 h]; simp; omega

theorem clamp_le (x : Int) : Rnd.clampN x ≤ 2 := by unfold Rnd.clampN; split <;> (try split) <;> omega
theorem clamp_mono {x y : Int} (h : x ≤ y) : Rnd.clampN x ≤ Rnd.clampN y := by
  unfold Rnd.clampN
  split <;> split <;> (try split) <;> (try split) <;> omega

/-- The health behind a sample of any health. -/
def S (b : Nat) (x : Int) : Nat := Rnd.samp (Rnd.hp b) (Rnd.clampN x)
theorem S_le (b : Nat) (x : Int) : S b x ≤ 1065353216 := Rnd.samp_le (Rnd.hp_good b) (clamp_le x)
theorem S_good (b : Nat) (x : Int) : Rnd.good (S b x) = true := Rnd.good_le (S_le b x)
theorem S_rung (b : Nat) (x : Int) : Rnd.rung (S b x) = S b x := Rnd.rung_le (S_le b x)
theorem S_lt (b : Nat) (x : Int) : S b x < 4294967296 := by have := S_le b x; omega
theorem sample_any (b : Nat) (x : Int) (w : World) (hb : b < 4294967296) :
    Calls Try.prog 8 #[.float .f32 b, .int .i64 x] w fun e w' => e = .returned (.float .f32 (S b x)) ∧ w = w' := sample_two b x w hb

/-- More halves never make it less. -/
theorem more (b : Nat) {x y : Int} (h : x ≤ y) : (FloatKind.f32.format.order (S b x) (S b y) == some .gt) = false := by
  rw [ford (S_good b x) (S_good b y), S_rung, S_rung]
  exact cmp_ne_gt (Rnd.samp_mono (Nat.le_refl _) (clamp_mono h))
/-- A greater health never makes it less. -/
theorem greater {a b : Nat} (x : Int) (ha : Rnd.good a = true) (hb : Rnd.good b = true) (h : Rnd.rung a ≤ Rnd.rung b) : (FloatKind.f32.format.order (S a x) (S b x) == some .gt) = false := by
  rw [ford (S_good a x) (S_good b x), S_rung, S_rung]
  refine cmp_ne_gt (Rnd.samp_mono ?_ (Nat.le_refl _))
  unfold Rnd.hp; rw [if_pos ha, if_pos hb]; exact h
theorem up (b : Nat) (hb : Rnd.good b = true) : (FloatKind.f32.format.order (S b 2) b == some .gt || FloatKind.f32.format.order (S b 2) b == some .eq) = true := by
  rw [ford (S_good b 2) hb, cmp_ge, S_rung]
  have := Rnd.le_samp_two hb
  unfold S Rnd.hp; rw [if_pos hb, show Rnd.clampN 2 = 2 from rfl]; simpa using this
theorem down (b : Nat) (hb : Rnd.good b = true) : (FloatKind.f32.format.order (S b 0) b == some .lt || FloatKind.f32.format.order (S b 0) b == some .eq) = true := by
  rw [ford (S_good b 0) hb, cmp_le, S_rung]
  have := @Rnd.samp_zero_le b
  unfold S Rnd.hp; rw [if_pos hb, show Rnd.clampN 0 = 0 from rfl]; simpa using this
theorem stay1 : (FloatKind.f32.format.order (S 1065353216 2) 1065353216 == some .eq) = true := by decide
theorem stay0 : (FloatKind.f32.format.order (S 0 0) 0 == some .eq) = true := by decide
attribute [irreducible] S

set_option maxHeartbeats 1000000 in
theorem order_good (g h : Nat) (x y : Int) (w : World) (hg32 : g < 4294967296) (hh32 : h < 4294967296) (hg : Rnd.good g = true) (hh : Rnd.good h = true) :
    Calls Try.prog 3 #[.int .u32 g, .int .u32 h, .int .i64 x, .int .i64 y] w fun e w' => e = .returned (.bool true) ∧ w = w' := by
  have s1 := S_good g x
  have s2 := S_good h y
  have s3 := ge0 s1
  have s4 := ge0 s2
  have s5 := le1 s1
  have s6 := le1 s2
  have l1 := S_lt g x
  have l2 := S_lt h y
  have g1 := ge0 hg
  have g2 := le1 hg
  have u := up g hg
  have d := down g hg
  have t1 := stay1
  have t0 := stay0
  have hle : (FloatKind.f32.format.order g h == some .lt || FloatKind.f32.format.order g h == some .eq) = decide (Rnd.rung g ≤ Rnd.rung h) := by
    rw [ford hg hh, cmp_le]
  have H := Lib.hid hle; clear hle
  by_cases hgh : Rnd.rung g ≤ Rnd.rung h
  · have n := greater x hg hh hgh
    have e := H.out
    rw [show decide (Rnd.rung g ≤ Rnd.rung h) = true from by simpa using hgh] at e
    by_cases hxy : x ≤ y
    · have m := more g hxy
      go_enter Try.func3, Try.ntmps3
      go_wp2_with (first | (go_at_call 6; refine (lives_any _).mono ?_; rintro e w' ⟨rfl, rfl⟩) | (go_at_call 7; refine (of_any _ _).mono ?_; rintro e w' ⟨rfl, rfl⟩) | (go_at_call 8; refine (sample_any _ _ _ (by first | exact hg32 | exact hh32 | exact l1 | exact l2 | decide)).mono ?_; rintro e w' ⟨rfl, rfl⟩) | (go_at_call 9; refine (good_any _ _ (by first | exact hg32 | exact hh32 | exact l1 | exact l2 | decide)).mono ?_; rintro e w' ⟨rfl, rfl⟩))
      go_ret
      exact ⟨rfl, rfl⟩
    · have hyx : y < x := by omega
      clear hxy
      go_enter Try.func3, Try.ntmps3
      go_wp2_with (first | (go_at_call 6; refine (lives_any _).mono ?_; rintro e w' ⟨rfl, rfl⟩) | (go_at_call 7; refine (of_any _ _).mono ?_; rintro e w' ⟨rfl, rfl⟩) | (go_at_call 8; refine (sample_any _ _ _ (by first | exact hg32 | exact hh32 | exact l1 | exact l2 | decide)).mono ?_; rintro e w' ⟨rfl, rfl⟩) | (go_at_call 9; refine (good_any _ _ (by first | exact hg32 | exact hh32 | exact l1 | exact l2 | decide)).mono ?_; rintro e w' ⟨rfl, rfl⟩))
      go_ret
      exact ⟨rfl, rfl⟩
  · have e := H.out
    rw [show decide (Rnd.rung g ≤ Rnd.rung h) = false from by simpa using hgh] at e
    by_cases hxy : x ≤ y
    · have m := more g hxy
      go_enter Try.func3, Try.ntmps3
      go_wp2_with (first | (go_at_call 6; refine (lives_any _).mono ?_; rintro e w' ⟨rfl, rfl⟩) | (go_at_call 7; refine (of_any _ _).mono ?_; rintro e w' ⟨rfl, rfl⟩) | (go_at_call 8; refine (sample_any _ _ _ (by first | exact hg32 | exact hh32 | exact l1 | exact l2 | decide)).mono ?_; rintro e w' ⟨rfl, rfl⟩) | (go_at_call 9; refine (good_any _ _ (by first | exact hg32 | exact hh32 | exact l1 | exact l2 | decide)).mono ?_; rintro e w' ⟨rfl, rfl⟩))
      go_ret
      exact ⟨rfl, rfl⟩
    · have hyx : y < x := by omega
      clear hxy
      go_enter Try.func3, Try.ntmps3
      go_wp2_with (first | (go_at_call 6; refine (lives_any _).mono ?_; rintro e w' ⟨rfl, rfl⟩) | (go_at_call 7; refine (of_any _ _).mono ?_; rintro e w' ⟨rfl, rfl⟩) | (go_at_call 8; refine (sample_any _ _ _ (by first | exact hg32 | exact hh32 | exact l1 | exact l2 | decide)).mono ?_; rintro e w' ⟨rfl, rfl⟩) | (go_at_call 9; refine (good_any _ _ (by first | exact hg32 | exact hh32 | exact l1 | exact l2 | decide)).mono ?_; rintro e w' ⟨rfl, rfl⟩))
      go_ret
      exact ⟨rfl, rfl⟩

set_option maxHeartbeats 1000000 in
theorem order_other (g h : Nat) (x y : Int) (w : World) (hg32 : g < 4294967296) (hh32 : h < 4294967296) (hg : Rnd.good g = true) (hh : Rnd.good h = false) :
    Calls Try.prog 3 #[.int .u32 g, .int .u32 h, .int .i64 x, .int .i64 y] w fun e w' => e = .returned (.bool true) ∧ w = w' := by
  have s1 := S_good g x
  have s2 := S_good h y
  have s3 := ge0 s1
  have s4 := ge0 s2
  have s5 := le1 s1
  have s6 := le1 s2
  have l1 := S_lt g x
  have l2 := S_lt h y
  have g1 := ge0 hg
  have g2 := le1 hg
  by_cases hxy : x ≤ y
  · have m := more g hxy
    go_enter Try.func3, Try.ntmps3
    go_wp2_with (first | (go_at_call 6; refine (lives_any _).mono ?_; rintro e w' ⟨rfl, rfl⟩) | (go_at_call 7; refine (of_any _ _).mono ?_; rintro e w' ⟨rfl, rfl⟩) | (go_at_call 8; refine (sample_any _ _ _ (by first | exact hg32 | exact hh32 | exact l1 | exact l2 | decide)).mono ?_; rintro e w' ⟨rfl, rfl⟩) | (go_at_call 9; refine (good_any _ _ (by first | exact hg32 | exact hh32 | exact l1 | exact l2 | decide)).mono ?_; rintro e w' ⟨rfl, rfl⟩))
    go_ret
    exact ⟨rfl, rfl⟩
  · have hyx : y < x := by omega
    clear hxy
    go_enter Try.func3, Try.ntmps3
    go_wp2_with (first | (go_at_call 6; refine (lives_any _).mono ?_; rintro e w' ⟨rfl, rfl⟩) | (go_at_call 7; refine (of_any _ _).mono ?_; rintro e w' ⟨rfl, rfl⟩) | (go_at_call 8; refine (sample_any _ _ _ (by first | exact hg32 | exact hh32 | exact l1 | exact l2 | decide)).mono ?_; rintro e w' ⟨rfl, rfl⟩) | (go_at_call 9; refine (good_any _ _ (by first | exact hg32 | exact hh32 | exact l1 | exact l2 | decide)).mono ?_; rintro e w' ⟨rfl, rfl⟩))
    go_ret
    exact ⟨rfl, rfl⟩

set_option maxHeartbeats 1000000 in
theorem order_none (g h : Nat) (x y : Int) (w : World) (hg32 : g < 4294967296) (hh32 : h < 4294967296) (hg : Rnd.good g = false) :
    Calls Try.prog 3 #[.int .u32 g, .int .u32 h, .int .i64 x, .int .i64 y] w fun e w' => e = .returned (.bool true) ∧ w = w' := by
  have s1 := S_good g x
  have s2 := S_good h y
  have s3 := ge0 s1
  have s4 := ge0 s2
  have s5 := le1 s1
  have s6 := le1 s2
  have l1 := S_lt g x
  have l2 := S_lt h y
  have f := fgood hg32
  rw [hg, Bool.and_eq_false_iff] at f
  cases hf : (FloatKind.f32.format.order g 0 == some .gt || FloatKind.f32.format.order g 0 == some .eq)
  · clear f
    by_cases hxy : x ≤ y
    · have m := more g hxy
      go_enter Try.func3, Try.ntmps3
      go_wp2_with (first | (go_at_call 6; refine (lives_any _).mono ?_; rintro e w' ⟨rfl, rfl⟩) | (go_at_call 7; refine (of_any _ _).mono ?_; rintro e w' ⟨rfl, rfl⟩) | (go_at_call 8; refine (sample_any _ _ _ (by first | exact hg32 | exact hh32 | exact l1 | exact l2 | decide)).mono ?_; rintro e w' ⟨rfl, rfl⟩) | (go_at_call 9; refine (good_any _ _ (by first | exact hg32 | exact hh32 | exact l1 | exact l2 | decide)).mono ?_; rintro e w' ⟨rfl, rfl⟩))
      go_ret
      exact ⟨rfl, rfl⟩
    · have hyx : y < x := by omega
      clear hxy
      go_enter Try.func3, Try.ntmps3
      go_wp2_with (first | (go_at_call 6; refine (lives_any _).mono ?_; rintro e w' ⟨rfl, rfl⟩) | (go_at_call 7; refine (of_any _ _).mono ?_; rintro e w' ⟨rfl, rfl⟩) | (go_at_call 8; refine (sample_any _ _ _ (by first | exact hg32 | exact hh32 | exact l1 | exact l2 | decide)).mono ?_; rintro e w' ⟨rfl, rfl⟩) | (go_at_call 9; refine (good_any _ _ (by first | exact hg32 | exact hh32 | exact l1 | exact l2 | decide)).mono ?_; rintro e w' ⟨rfl, rfl⟩))
      go_ret
      exact ⟨rfl, rfl⟩
  · have f2 := f.resolve_left (by rw [hf]; simp)
    clear f
    by_cases hxy : x ≤ y
    · have m := more g hxy
      go_enter Try.func3, Try.ntmps3
      go_wp2_with (first | (go_at_call 6; refine (lives_any _).mono ?_; rintro e w' ⟨rfl, rfl⟩) | (go_at_call 7; refine (of_any _ _).mono ?_; rintro e w' ⟨rfl, rfl⟩) | (go_at_call 8; refine (sample_any _ _ _ (by first | exact hg32 | exact hh32 | exact l1 | exact l2 | decide)).mono ?_; rintro e w' ⟨rfl, rfl⟩) | (go_at_call 9; refine (good_any _ _ (by first | exact hg32 | exact hh32 | exact l1 | exact l2 | decide)).mono ?_; rintro e w' ⟨rfl, rfl⟩))
      go_ret
      exact ⟨rfl, rfl⟩
    · have hyx : y < x := by omega
      clear hxy
      go_enter Try.func3, Try.ntmps3
      go_wp2_with (first | (go_at_call 6; refine (lives_any _).mono ?_; rintro e w' ⟨rfl, rfl⟩) | (go_at_call 7; refine (of_any _ _).mono ?_; rintro e w' ⟨rfl, rfl⟩) | (go_at_call 8; refine (sample_any _ _ _ (by first | exact hg32 | exact hh32 | exact l1 | exact l2 | decide)).mono ?_; rintro e w' ⟨rfl, rfl⟩) | (go_at_call 9; refine (good_any _ _ (by first | exact hg32 | exact hh32 | exact l1 | exact l2 | decide)).mono ?_; rintro e w' ⟨rfl, rfl⟩))
      go_ret
      exact ⟨rfl, rfl⟩

theorem order_true (g h : Nat) (x y : Int) (w : World) (hg32 : g < 4294967296) (hh32 : h < 4294967296) :
    Calls Try.prog 3 #[.int .u32 g, .int .u32 h, .int .i64 x, .int .i64 y] w fun e w' => e = .returned (.bool true) ∧ w = w' := by
  cases hg : Rnd.good g
  · exact order_none g h x y w hg32 hh32 hg
  · cases hh : Rnd.good h
    · exact order_other g h x y w hg32 hh32 hg hh
    · exact order_good g h x y w hg32 hh32 hg hh
end Go.Proofs.Ytjjacehacfbolaa
