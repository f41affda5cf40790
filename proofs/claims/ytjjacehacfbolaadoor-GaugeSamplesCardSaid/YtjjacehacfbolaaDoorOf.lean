/- The document's of, plus and Sample, walked. -/
import Derived.Test.YtjjacehacfbolaaDoorPack
import Derived.Laws.BitsAllLaws
namespace Go.Proofs.YtjjacehacfbolaaDoor
open Go.RowKit

theorem and31 (b : Nat) (hb : b < 4294967296) : bits .and .u32 (b : Int) 2147483647 = ((Rnd.rung b : Nat) : Int) := by
  have := u32_and_nat b 2147483647 hb (by decide)
  rw [show ((2147483647 : Nat) : Int) = 2147483647 from rfl] at this
  rw [this]
  congr 1
  exact Nat.and_two_pow_sub_one_eq_mod b 31

set_option maxRecDepth 100000 in
set_option maxHeartbeats 400000 in
/-- of: the number of good bits. -/
theorem of_num (b : Nat) (w : World) (hb : Rnd.good b = true) :
    Calls Tryd.prog 16 #[.int .u32 b] w fun r w' => ∃ (m : Nat) (e : Int), r = .returned (.agg #[.int .u64 m, .int .i64 e]) ∧ m < 16777216 ∧ -149 ≤ e ∧ e ≤ -23 ∧ Rnd.X m e = Rnd.A (Rnd.rung b) ∧ Below w.heap.size w w' := by
  have ha := and31 b (Rnd.good_lt hb)
  have hr := Rnd.good_rung hb
  generalize Rnd.rung b = r at *
  obtain ⟨q, hq⟩ : ∃ q : Nat, q = r / 8388608 := ⟨_, rfl⟩
  obtain ⟨s, hs⟩ : ∃ s : Nat, s = r % 8388608 := ⟨_, rfl⟩
  have cq : (r : Int) / 8388608 = (q : Int) := by rw [hq]; simp
  have cs : (r : Int) % 8388608 = (s : Int) := by rw [hs]; simp
  have q1 : (q : Int) ≤ 127 := by omega
  have s1 : (s : Int) ≤ 8388607 := by omega
  have sw : IntKind.u64.wrap ((s : Int) + 8388608) = ((s + 8388608 : Nat) : Int) := by rw [IntKind.wrap_u64]; omega
  have HQ := Lib.hid hq
  have HS := Lib.hid hs
  have HR := Lib.hid hr
  clear hq hs hr
  by_cases h0 : q = 0
  · have HX : Hid (Rnd.X s (-149) = Rnd.A r) := by
      have h1 := HQ.out; have h2 := HS.out
      have : r = s := by omega
      show Rnd.X s (-149) = Rnd.A r
      unfold Rnd.X Rnd.A
      rw [this, if_pos (by omega)]; rfl
    have t0 : ((q : Int) == 0) = true := by simp [h0]
    have H0 := Lib.hid h0; clear h0
    go_enter Tryd.func16, Tryd.ntmps16
    go_wp2
    refine bodyPost_ret (v := .agg #[.int .u64 s, .int .i64 (-149)]) (by simp [results, Tryd.results16, go_sem]) rfl ⟨s, -149, rfl, by omega, by omega, by omega, HX.out, ?_⟩
    exact (Below.refl _ _).alloc (Nat.le_refl _) _
  · have HX : Hid (Rnd.X (s + 8388608) ((q : Int) - 150) = Rnd.A r) := by
      have h1 := HQ.out; have h2 := HS.out
      show Rnd.X (s + 8388608) ((q : Int) - 150) = Rnd.A r
      unfold Rnd.X Rnd.A
      have e1 : s + 8388608 = 2 ^ 23 + r % 2 ^ 23 := by omega
      have e2 : ((q : Int) - 150 + 176).toNat = r / 2 ^ 23 - 1 + 27 := by omega
      rw [if_neg (by omega), Nat.mul_assoc, ← Nat.pow_add, e1, e2]
    have t0 : ((q : Int) == 0) = false := by simp [h0]
    have H0 := Lib.hid h0; clear h0
    go_enter Tryd.func16, Tryd.ntmps16
    go_wp2
    refine bodyPost_ret (v := .agg #[.int .u64 ((s + 8388608 : Nat) : Int), .int .i64 ((q : Int) - 150)]) (by simp [results, Tryd.results16, go_sem]) rfl ⟨s + 8388608, (q : Int) - 150, rfl, by omega, by have := H0.out; omega, by omega, HX.out, ?_⟩
    exact (Below.refl _ _).alloc (Nat.le_refl _) _

/-- What plus answers: a number that rounds as the sum does. -/
structure Sum (h m : Nat) (e : Int) (m' : Nat) (e' : Int) : Prop where
  lt : m' < 9223372036854775808
  ge : -176 ≤ e'
  le : Rnd.X m' e' ≤ 2 ^ 176
  eq : Rnd.R (Rnd.X m' e') = Rnd.R (h * 2 ^ 172 + Rnd.X m e)

theorem sum_zero {m : Nat} {e : Int} (hm : m < 16777216) (he : -149 ≤ e) (hX : 0 * 2 ^ 172 + Rnd.X m e ≤ 2 ^ 176) : Sum 0 m e m e :=
  ⟨by omega, by omega, by omega, by rw [Nat.zero_mul, Nat.zero_add]⟩
theorem sum_none {h : Nat} {e : Int} (hh : h ≤ 2) : Sum h 0 e h (-4) := by
  have e1 : Rnd.X h (-4) = h * 2 ^ 172 := rfl
  have e2 : Rnd.X 0 e = 0 := by unfold Rnd.X; omega
  exact ⟨by omega, by omega, by rw [e1]; omega, by rw [e1, e2, Nat.add_zero]⟩
theorem sum_near {h m d : Nat} {e : Int} (hh : h ≤ 2) (hm : m < 16777216) (he : -149 ≤ e) (hd : -4 - e = (d : Int)) (h60 : d ≤ 60) (hX : h * 2 ^ 172 + Rnd.X m e ≤ 2 ^ 176) : Sum h m e (h * 2 ^ d + m) e := by
  have e1 : Rnd.X (h * 2 ^ d + m) e = h * 2 ^ 172 + Rnd.X m e := by
    unfold Rnd.X
    rw [Nat.add_mul, Nat.mul_assoc, ← Nat.pow_add, show d + (e + 176).toNat = 172 from by omega]
  have : 2 ^ d ≤ 2 ^ 60 := Nat.pow_le_pow_right (by decide) h60
  have : h * 2 ^ d ≤ 2 * 2 ^ 60 := Nat.mul_le_mul hh this
  exact ⟨by omega, by omega, by rw [e1]; exact hX, by rw [e1]⟩
theorem sum_far {h m d : Nat} {e : Int} (h1 : 1 ≤ h) (hh : h ≤ 2) (hm : m < 16777216) (he : -149 ≤ e) (hd : -4 - e = (d : Int)) (h60 : 60 < d) : Sum h m e (h * 1099511627776 + 1) (-44) := by
  have e1 : Rnd.X (h * 1099511627776 + 1) (-44) = h * 2 ^ 172 + 2 ^ 132 := by
    show (h * 1099511627776 + 1) * 2 ^ 132 = _
    omega
  have e2 : Rnd.X m e < 2 ^ 148 := by
    have : Rnd.X m e < 2 ^ 24 * 2 ^ (e + 176).toNat := Nat.mul_lt_mul_of_pos_right hm (Nat.two_pow_pos _)
    rw [← Nat.pow_add] at this
    exact Nat.lt_of_lt_of_le this (Nat.pow_le_pow_right (by decide) (by omega))
  refine ⟨by omega, by omega, by rw [e1]; omega, ?_⟩
  rw [e1, Rnd.R_far h1 hh (by decide), Rnd.R_far h1 hh e2]

set_option maxRecDepth 100000 in
set_option maxHeartbeats 400000 in
theorem plus_any (h m : Nat) (e : Int) (w : World) (hh : h ≤ 2) (hm : m < 16777216) (he : -149 ≤ e) (he2 : e ≤ -23) (hX : h * 2 ^ 172 + Rnd.X m e ≤ 2 ^ 176) :
    Calls Tryd.prog 19 #[.int .u64 h, .agg #[.int .u64 m, .int .i64 e]] w fun r w' => ∃ (m' : Nat) (e' : Int), r = .returned (.agg #[.int .u64 m', .int .i64 e']) ∧ Sum h m e m' e' ∧ Below w.heap.size w w' := by
  have HX := Lib.hid hX; clear hX
  have HM := Lib.hid hm; clear hm
  have two : Below w.heap.size w ((w.alloc (.cells #[.int .u64 m, .int .i64 e] 40)).alloc (.cells #[.int .u64 0, .int .i64 0] 40)) :=
    ((Below.refl _ _).alloc (Nat.le_refl _) _).alloc (by simp) _
  by_cases h0 : h = 0
  · subst h0
    have HS := Lib.hid (sum_zero HM.out he HX.out)
    have H2 := Lib.hid two; clear two
    go_enter Tryd.func19, Tryd.ntmps19
    go_wp2
    refine bodyPost_ret (v := .agg #[.int .u64 m, .int .i64 e]) (by simp [results, Tryd.results19, go_sem]) rfl ⟨m, e, rfl, HS.out, ?_⟩
    exact ((Below.refl _ _).alloc (Nat.le_refl _) _).alloc (by simp) _
  · have t0 : ((h : Int) == 0) = false := by simp [h0]
    by_cases m0 : m = 0
    · subst m0
      have HS := Lib.hid (sum_none (h := h) (e := e) hh)
      have H2 := Lib.hid two; clear two
      have H0 := Lib.hid h0; clear h0
      go_enter Tryd.func19, Tryd.ntmps19
      go_wp2
      refine bodyPost_ret (v := .agg #[.int .u64 h, .int .i64 (-4)]) (by simp [results, Tryd.results19, go_sem]) rfl ⟨h, -4, rfl, HS.out, ?_⟩
      exact ((Below.refl _ _).alloc (Nat.le_refl _) _).alloc (by simp) _
    · have tm : ((m : Int) == 0) = false := by simp [m0]
      have M0 := Lib.hid m0; clear m0
      obtain ⟨d, hd⟩ : ∃ d : Nat, -4 - e = (d : Int) := ⟨(-4 - e).toNat, by omega⟩
      have d1 : (19 : Int) ≤ (d : Int) := by omega
      have d2 : (d : Int) ≤ 145 := by omega
      have H2 := Lib.hid two; clear two
      have H0 := Lib.hid h0; clear h0
      by_cases h60 : d ≤ 60
      · have HS := Lib.hid (sum_near hh HM.out he hd h60 HX.out)
        have d3 : (d : Int) ≤ 60 := by omega
        obtain ⟨P, hP⟩ : ∃ P : Nat, P = h * 2 ^ d := ⟨_, rfl⟩
        obtain ⟨S, hS⟩ : ∃ S : Nat, S = P + m := ⟨_, rfl⟩
        have sw : IntKind.u64.wrap ((h : Int) * 2 ^ d) = (P : Int) := by
          have : 2 ^ d ≤ 2 ^ 60 := Nat.pow_le_pow_right (by decide) h60
          have : h * 2 ^ d ≤ 2 * 2 ^ 60 := Nat.mul_le_mul hh this
          have e1 : ((h : Int) * 2 ^ d) = ((h * 2 ^ d : Nat) : Int) := by simp
          rw [e1, IntKind.wrap_u64, ← hP]
          rw [← hP] at this
          omega
        have HS1 : Hid (Sum h m e S e) := by rw [hS, hP]; exact HS.out
        have sv : IntKind.u64.wrap ((P : Int) + (m : Int)) = (S : Int) := by
          have := HS1.out.lt
          rw [IntKind.wrap_u64]; omega
        have HP := Lib.hid hP; clear hP
        have HSS := Lib.hid hS; clear hS
        go_enter Tryd.func19, Tryd.ntmps19
        go_wp2
        refine bodyPost_ret (v := .agg #[.int .u64 S, .int .i64 e]) (by simp [results, Tryd.results19, go_sem]) rfl ⟨S, e, rfl, HS1.out, ?_⟩
        exact ((Below.refl _ _).alloc (Nat.le_refl _) _).alloc (by simp) _
      · have HS := Lib.hid (sum_far (by have := H0.out; omega) hh HM.out he hd (by omega))
        have d3 : (60 : Int) < (d : Int) := by omega
        have hh1 : (h : Int) ≤ 2 := by omega
        go_enter Tryd.func19, Tryd.ntmps19
        go_wp2
        refine bodyPost_ret (v := .agg #[.int .u64 ((h * 1099511627776 + 1 : Nat) : Int), .int .i64 (-44)]) (by simp [results, Tryd.results19, go_sem]) rfl ⟨h * 1099511627776 + 1, -44, rfl, HS.out, ?_⟩
        exact ((Below.refl _ _).alloc (Nat.le_refl _) _).alloc (by simp) _

set_option maxRecDepth 100000 in
/-- plus at 0: the number itself. -/
theorem plus_zero (m : Nat) (e : Int) (w : World) :
    Calls Tryd.prog 19 #[.int .u64 0, .agg #[.int .u64 m, .int .i64 e]] w fun r w' => r = .returned (.agg #[.int .u64 m, .int .i64 e]) ∧ Below w.heap.size w w' := by
  go_enter Tryd.func19, Tryd.ntmps19
  go_wp2
  refine bodyPost_ret (v := .agg #[.int .u64 m, .int .i64 e]) (by simp [results, Tryd.results19, go_sem]) rfl ⟨rfl, ?_⟩
  exact ((Below.refl _ _).alloc (Nat.le_refl _) _).alloc (by simp) _

theorem samp_nought (b : Nat) : Rnd.samp b 0 = Rnd.R (Rnd.A (Rnd.R (7 * Rnd.A (Rnd.rung b) / 8))) := by
  unfold Rnd.samp
  rw [Nat.zero_mul, Nat.add_zero]
end Go.Proofs.YtjjacehacfbolaaDoor
