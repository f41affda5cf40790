/- The walk of GaugeSamples: it answers true. -/
import Derived.Test.YtjjacehacfbolaaDoorText
import Derived.Lib.AppendIntMem
namespace Go.Proofs.YtjjacehacfbolaaDoor
open Go.RowKit Go.Sort

/-- A slice value of address A whose first n cells hold f. -/
def Sl (w : World) (A : Option Addr) (n : Nat) (f : Nat → Value) : Prop :=
  0 < n → ∃ g o, A = some ⟨g, o, none⟩ ∧ g < w.heap.size ∧ ∀ i, i < n → w.cell? ⟨g, o + i, none⟩ = some (f i)

theorem below_grow (w : World) (k : Nat) (os : Array Obj) : Below w.heap.size w (grow (w.drewN k) os) :=
  ⟨rfl, rfl, rfl, by simp [grow, World.drewN], fun i hi => heap_grow_old (w.drewN k) os hi⟩

theorem text_below (b : Nat) (w : World) (hb : b < 4294967296) (htab : Lib.TabIs Tryd.prog w "internal/strconv.uint64pow10" .u64 Lib.pow10Tab) :
    Calls Tryd.prog 8 #[.float .f32 b] w fun e w' => e = .returned (.string (textOf b)) ∧ Below w.heap.size w w' :=
  (text_any b w hb htab).mono fun e w' ⟨he, k, os, hw⟩ => ⟨he, by rw [hw]; exact below_grow w k os⟩

theorem run_bits (b : Nat) (w : World) : (callFunc 20 #[.float .f32 b]).run Tryd.prog w = .ok (.value (.int .u32 b)) w := by
  rw [run_callFunc_extern (e := Extern.MathFloatBits.float32bits) Tryd.func20 (by kernel_rfl) (by kernel_rfl) (by kernel_rfl) (by kernel_rfl)]
  rfl
theorem bitsOf_any (b : Nat) (w : World) : Calls Tryd.prog 12 #[.float .f32 b] w fun e w' => e = .returned (.int .u32 b) ∧ w = w' := by
  have h := run_bits
  go_enter Tryd.func12, Tryd.ntmps12
  go_wp2
  go_ret
  exact ⟨rfl, rfl⟩
theorem of_nat (b : Nat) (w : World) : Calls Tryd.prog 5 #[.int .u32 b] w fun e w' => e = .returned (.float .f32 b) ∧ w = w' := of_any b w

/-- The health behind a sample of any health. -/
def S (b : Nat) (x : Int) : Nat := Rnd.samp (Rnd.hp b) (Rnd.clampN x)
theorem S_lt (b : Nat) (x : Int) : S b x < 4294967296 := by
  have := Rnd.samp_le (b := Rnd.hp b) (n := Rnd.clampN x) (Rnd.hp_good b) (by unfold Rnd.clampN; split <;> (try split) <;> omega)
  unfold S; omega
theorem sample_any (b : Nat) (x : Int) (w : World) (hb : b < 4294967296) : Calls Tryd.prog 10 #[.float .f32 b, .int .i64 x] w fun e w' => e = .returned (.float .f32 (S b x)) ∧ w = w' := sample_two b x w hb
theorem rsample_S (b : Nat) (x : Int) (w : World) : Calls Tryd.prog 11 #[.int .u32 b, .int .i64 x] w fun r w' => r = .returned (.int .u32 (S b x)) ∧ Below w.heap.size w w' := rsample_any b x w
attribute [irreducible] S

set_option maxHeartbeats 2000000 in
theorem samples_walk (b : Nat) (A : Option Addr) (n ca : Nat) (x : Nat → Int) (w : World) (hb : b < 4294967296)
    (hA : Sl w A n (fun i => .int .i64 (x i))) (hn : n ≤ 9223372036854775806)
    (htab : Lib.TabIs Tryd.prog w "internal/strconv.uint64pow10" .u64 Lib.pow10Tab) :
    Calls Tryd.prog 3 #[.int .u32 b, .slice A n ca] w fun e w' => e = .returned (.bool true) ∧ Below w.heap.size w w' := by
  have TB := Lib.hid (Lib.tabBelow_of_tabIs htab)
  clear htab
  have HA := Lib.hid hA; clear hA
  by_cases h65 : n ≤ 65536
  · have t1 : decide ((65536 : Int) < (n : Int)) = false := by simpa using (show (n : Int) ≤ 65536 by omega)
    clear h65
    go_enter Tryd.func3, Tryd.ntmps3
    go_wp2_with (first | (go_at_call 4; refine (lives_any _).mono ?_; rintro e w' ⟨rfl, rfl⟩) | (go_at_call 5; refine (of_nat _ _).mono ?_; rintro e w' ⟨rfl, rfl⟩) | (go_at_call 6; refine (good_any _ _ hb).mono ?_; rintro e w' ⟨rfl, rfl⟩) | (go_at_call 7; refine (rgood_any _ _).mono ?_; rintro e w' ⟨rfl, rfl⟩))
    refine (text_below b _ hb (TB.out _ (Below.refl _ _))).mono ?_
    rintro e w1 ⟨rfl, hb1⟩
    have HB1 := Lib.hid hb1; clear hb1
    go_wp2_with fail
    refine (rtext_any b _).mono ?_
    rintro e w2 ⟨rfl, hb2⟩
    have HB2 := Lib.hid (HB1.out.trans (hb2.mono HB1.out.size)); clear hb2
    go_wp2
    go_loopw [6, 7, 36] (fun h c i wr => ∃ k d : Nat, k ≤ n ∧ i = .int .i64 k ∧ h = .float .f32 d ∧ c = .int .u32 d ∧ Hid (d < 4294967296) ∧ Hid (Below w.heap.size w wr)) (fun _ _ i _ => n - (intOf i).toNat)
    case atStart => exact ⟨0, b, Nat.zero_le _, rfl, rfl, rfl, hb, HB2⟩
    case round =>
      obtain ⟨k, d, hk, rfl, rfl, rfl, hd, hbr⟩ := hrel
      by_cases hlt : k < n
      · obtain ⟨g1, o1, rfl, hg1, hc1⟩ := HA.out (by omega)
        have c1 : wr.cell? ⟨g1, o1 + k, none⟩ = some (.int .i64 (x k)) := (hbr.out.cell (by exact hg1)).trans (hc1 k hlt)
        have HC1 := Lib.hid hc1; clear hc1
        generalize x k = y at c1
        go_wp2_with (go_at_call 10; refine (sample_any _ _ _ hd.out).mono ?_; rintro e w' ⟨rfl, rfl⟩)
        refine (rsample_S d y _).mono ?_
        rintro e w3 ⟨rfl, hb3⟩
        have HB3 := Lib.hid (hbr.out.trans (hb3.mono hbr.out.size)); clear hb3
        go_wp2_with (go_at_call 12; refine (bitsOf_any _ _).mono ?_; rintro e w' ⟨rfl, rfl⟩)
        go_roundw
        case rel => exact ⟨k + 1, S d y, by omega, by go_num, rfl, rfl, S_lt d y, HB3⟩
        case measure => simp [intOf]; omega
      · obtain rfl : k = n := by omega
        go_wp2_with fail
        refine (text_below d _ hd.out (TB.out _ hbr.out)).mono ?_
        rintro e w3 ⟨rfl, hb3⟩
        have HB3 := Lib.hid (hbr.out.trans (hb3.mono hbr.out.size)); clear hb3
        go_wp2_with fail
        refine (rtext_any d _).mono ?_
        rintro e w4 ⟨rfl, hb4⟩
        have HB4 := Lib.hid (HB3.out.trans (hb4.mono HB3.out.size)); clear hb4
        go_wp2
        go_ret
        exact ⟨ret_b (by simp), HB4.out⟩
  · have t1 : decide ((65536 : Int) < (n : Int)) = true := by simpa using (show (65536 : Int) < (n : Int) by omega)
    clear h65
    go_enter Tryd.func3, Tryd.ntmps3
    go_wp2_with (go_at_call 4; refine (lives_any _).mono ?_; rintro e w' ⟨rfl, rfl⟩)
    go_ret
    exact ⟨rfl, Below.refl _ _⟩
end Go.Proofs.YtjjacehacfbolaaDoor
