/- The document's Good and Sample, walked: the same healths. -/
import Derived.Test.YtjjacehacfbolaaDoorOf
import Derived.Test.YtjjacehacfbolaaDoorWalks
namespace Go.Proofs.YtjjacehacfbolaaDoor
open Go.RowKit

theorem rgood_any (b : Nat) (w : World) : Calls Tryd.prog 7 #[.int .u32 b] w fun e w' => e = .returned (.bool (Rnd.good b)) ∧ w = w' := by
  by_cases h1 : b ≤ 1065353216
  · have e : Rnd.good b = true := Rnd.good_le h1
    rw [e]; clear e
    have h2 : ((b : Int) ≤ 1065353216) := by omega
    go_enter Tryd.func7, Tryd.ntmps7
    go_wp2
    go_ret
    exact ⟨rfl, rfl⟩
  · by_cases h2 : b = 2147483648
    · subst h2
      go_enter Tryd.func7, Tryd.ntmps7
      go_wp2
      go_ret
      exact ⟨rfl, rfl⟩
    · have e : Rnd.good b = false := by unfold Rnd.good; simp [h1, h2]
      rw [e]; clear e
      have h3 : ¬ ((b : Int) ≤ 1065353216) := by omega
      have h4 : ((b : Int) == 2147483648) = false := by simp; omega
      have h5 : (b == 2147483648) = false := by simp; omega
      clear h2 h1
      go_enter Tryd.func7, Tryd.ntmps7
      go_wp2
      go_ret
      exact ⟨rfl, rfl⟩

theorem X_seven {m : Nat} {e : Int} (he : -149 ≤ e) : Rnd.X (m * 7) (e - 3) = 7 * Rnd.X m e / 8 := by
  obtain ⟨k, hk⟩ : ∃ k : Nat, e = (k : Int) - 149 := ⟨(e + 149).toNat, by omega⟩
  subst hk
  unfold Rnd.X
  rw [show ((k : Int) - 149 - 3 + 176).toNat = k + 24 from by omega, show ((k : Int) - 149 + 176).toNat = k + 24 + 3 from by omega, Nat.pow_add 2 (k + 24) 3, Nat.mul_right_comm, ← Nat.mul_assoc m]
  generalize m * 2 ^ (k + 24) = t
  omega

theorem R1_le {b : Nat} (h : Rnd.good b = true) : Rnd.R (7 * Rnd.A (Rnd.rung b) / 8) ≤ 1065353216 := by
  have := Rnd.R_mono (x := 7 * Rnd.A (Rnd.rung b) / 8) (y := Rnd.A 1065353216) (by have := Rnd.A_mono (Rnd.good_rung h); omega)
  rwa [Rnd.R_A] at this

theorem rstart_any (w : World) : Calls Tryd.prog 17 #[] w fun e w' => e = .returned (.int .u32 1065353216) ∧ w = w' := by
  go_enter Tryd.func17, Tryd.ntmps17
  go_wp2
  go_ret
  exact ⟨rfl, rfl⟩


set_option maxRecDepth 100000 in
set_option maxHeartbeats 1000000 in
theorem rsample_1 (b : Nat) (x : Int) (w : World) (hx : x < 0) (hg : Rnd.good b = true) :
    Calls Tryd.prog 11 #[.int .u32 b, .int .i64 x] w fun r w' => r = .returned (.int .u32 (Rnd.samp b 0)) ∧ Below w.heap.size w w' := by
  have hc : Rnd.good b = true := hg
  have H1 := Lib.hid (R1_le hc)
  have HA := Lib.hid (Rnd.A_old (Rnd.good_rung hc))
  have HA2 := Lib.hid (show Rnd.A (Rnd.R (7 * Rnd.A (Rnd.rung b) / 8)) ≤ 2 ^ 176 from Nat.le_trans HA.out (by decide))
  have HA1 := Lib.hid (show Rnd.A (Rnd.rung b) ≤ 2 ^ 176 by have := Rnd.A_mono (Rnd.good_rung hc); rwa [Rnd.A_one] at this)
  go_enter Tryd.func11, Tryd.ntmps11
  go_wp2_with (first | (go_at_call 7; refine (rgood_any _ _).mono ?_; rintro e w' ⟨rfl, rfl⟩) | (go_at_call 17; refine (rstart_any _).mono ?_; rintro e w' ⟨rfl, rfl⟩))
  refine (of_num b _ hc).mono ?_
  rintro r w1 ⟨m, e, rfl, hm, he, he2, hX, hbel⟩
  have mw : IntKind.u64.wrap ((m : Int) * 7) = ((m * 7 : Nat) : Int) := by rw [IntKind.wrap_u64]; omega
  have HM := Lib.hid hm; clear hm
  have HX := Lib.hid hX; clear hX
  have HB := Lib.hid hbel; clear hbel
  have hs1 := HB.out.size
  go_wp2_with fail
  refine (rounded_any (m * 7) (e - 3) _ (by have := HM.out; omega) (by omega) (by rw [X_seven he, HX.out]; have := H1.out; have := HA1.out; omega)).mono ?_
  rintro r w2 ⟨rfl, hb2⟩
  rw [X_seven he, HX.out]
  have HB2 := Lib.hid hb2; clear hb2
  have hs2 := HB2.out.size
  simp at hs2
  go_wp2_with fail
  refine (of_num _ _ (Rnd.good_le H1.out)).mono ?_
  rintro r w3 ⟨m2, e2, rfl, hm2, he3, he4, hX2, hb3⟩
  rw [Rnd.rung_le H1.out] at hX2
  have HM2 := Lib.hid hm2; clear hm2
  have HX2 := Lib.hid hX2; clear hX2
  have HB3 := Lib.hid hb3; clear hb3
  have hs3 := HB3.out.size
  go_wp2_with fail
  refine (plus_zero m2 e2 _).mono ?_
  rintro r w4 ⟨rfl, hb4⟩
  have HB4 := Lib.hid hb4; clear hb4
  have hs4 := HB4.out.size
  simp at hs4
  go_wp2_with fail
  refine (rounded_any m2 e2 _ (by have := HM2.out; omega) (by omega) (by rw [HX2.out]; exact HA2.out)).mono ?_
  rintro r w5 ⟨rfl, hb5⟩
  rw [HX2.out]
  have HB5 := Lib.hid hb5; clear hb5
  go_wp2
  go_ret
  refine ⟨ret_u (by rw [samp_nought]), ?_⟩
  refine Below.trans HB.out (Below.trans ((Below.refl w1.heap.size w1).alloc (Nat.le_refl _) _ |>.trans (HB2.out.mono (by simp))) ?_ |>.mono hs1)
  refine Below.trans (HB3.out.mono (by omega)) ?_
  refine Below.trans (((Below.refl w3.heap.size w3).alloc (Nat.le_refl _) _).trans (HB4.out.mono (by simp)) |>.mono (by omega)) ?_
  exact HB5.out.mono (by omega)

set_option maxRecDepth 100000 in
set_option maxHeartbeats 1000000 in
theorem rsample_2 (b : Nat) (w : World) (hg : Rnd.good b = true) :
    Calls Tryd.prog 11 #[.int .u32 b, .int .i64 (0 : Int)] w fun r w' => r = .returned (.int .u32 (Rnd.samp b 0)) ∧ Below w.heap.size w w' := by
  have hc : Rnd.good b = true := hg
  have H1 := Lib.hid (R1_le hc)
  have HA := Lib.hid (Rnd.A_old (Rnd.good_rung hc))
  have HA2 := Lib.hid (show Rnd.A (Rnd.R (7 * Rnd.A (Rnd.rung b) / 8)) ≤ 2 ^ 176 from Nat.le_trans HA.out (by decide))
  have HA1 := Lib.hid (show Rnd.A (Rnd.rung b) ≤ 2 ^ 176 by have := Rnd.A_mono (Rnd.good_rung hc); rwa [Rnd.A_one] at this)
  go_enter Tryd.func11, Tryd.ntmps11
  go_wp2_with (first | (go_at_call 7; refine (rgood_any _ _).mono ?_; rintro e w' ⟨rfl, rfl⟩) | (go_at_call 17; refine (rstart_any _).mono ?_; rintro e w' ⟨rfl, rfl⟩))
  refine (of_num b _ hc).mono ?_
  rintro r w1 ⟨m, e, rfl, hm, he, he2, hX, hbel⟩
  have mw : IntKind.u64.wrap ((m : Int) * 7) = ((m * 7 : Nat) : Int) := by rw [IntKind.wrap_u64]; omega
  have HM := Lib.hid hm; clear hm
  have HX := Lib.hid hX; clear hX
  have HB := Lib.hid hbel; clear hbel
  have hs1 := HB.out.size
  go_wp2_with fail
  refine (rounded_any (m * 7) (e - 3) _ (by have := HM.out; omega) (by omega) (by rw [X_seven he, HX.out]; have := H1.out; have := HA1.out; omega)).mono ?_
  rintro r w2 ⟨rfl, hb2⟩
  rw [X_seven he, HX.out]
  have HB2 := Lib.hid hb2; clear hb2
  have hs2 := HB2.out.size
  simp at hs2
  go_wp2_with fail
  refine (of_num _ _ (Rnd.good_le H1.out)).mono ?_
  rintro r w3 ⟨m2, e2, rfl, hm2, he3, he4, hX2, hb3⟩
  rw [Rnd.rung_le H1.out] at hX2
  have HM2 := Lib.hid hm2; clear hm2
  have HX2 := Lib.hid hX2; clear hX2
  have HB3 := Lib.hid hb3; clear hb3
  have hs3 := HB3.out.size
  go_wp2_with fail
  refine (plus_zero m2 e2 _).mono ?_
  rintro r w4 ⟨rfl, hb4⟩
  have HB4 := Lib.hid hb4; clear hb4
  have hs4 := HB4.out.size
  simp at hs4
  go_wp2_with fail
  refine (rounded_any m2 e2 _ (by have := HM2.out; omega) (by omega) (by rw [HX2.out]; exact HA2.out)).mono ?_
  rintro r w5 ⟨rfl, hb5⟩
  rw [HX2.out]
  have HB5 := Lib.hid hb5; clear hb5
  go_wp2
  go_ret
  refine ⟨ret_u (by rw [samp_nought]), ?_⟩
  refine Below.trans HB.out (Below.trans ((Below.refl w1.heap.size w1).alloc (Nat.le_refl _) _ |>.trans (HB2.out.mono (by simp))) ?_ |>.mono hs1)
  refine Below.trans (HB3.out.mono (by omega)) ?_
  refine Below.trans (((Below.refl w3.heap.size w3).alloc (Nat.le_refl _) _).trans (HB4.out.mono (by simp)) |>.mono (by omega)) ?_
  exact HB5.out.mono (by omega)

set_option maxRecDepth 100000 in
set_option maxHeartbeats 1000000 in
theorem rsample_3 (b : Nat) (w : World) (hg : Rnd.good b = true) :
    Calls Tryd.prog 11 #[.int .u32 b, .int .i64 (1 : Int)] w fun r w' => r = .returned (.int .u32 (Rnd.samp b 1)) ∧ Below w.heap.size w w' := by
  have hc : Rnd.good b = true := hg
  have H1 := Lib.hid (R1_le hc)
  have HA := Lib.hid (Rnd.A_old (Rnd.good_rung hc))
  have HA2 := Lib.hid (show Rnd.A (Rnd.R (7 * Rnd.A (Rnd.rung b) / 8)) ≤ 2 ^ 176 from Nat.le_trans HA.out (by decide))
  have HA1 := Lib.hid (show Rnd.A (Rnd.rung b) ≤ 2 ^ 176 by have := Rnd.A_mono (Rnd.good_rung hc); rwa [Rnd.A_one] at this)
  go_enter Tryd.func11, Tryd.ntmps11
  go_wp2_with (first | (go_at_call 7; refine (rgood_any _ _).mono ?_; rintro e w' ⟨rfl, rfl⟩) | (go_at_call 17; refine (rstart_any _).mono ?_; rintro e w' ⟨rfl, rfl⟩))
  refine (of_num b _ hc).mono ?_
  rintro r w1 ⟨m, e, rfl, hm, he, he2, hX, hbel⟩
  have mw : IntKind.u64.wrap ((m : Int) * 7) = ((m * 7 : Nat) : Int) := by rw [IntKind.wrap_u64]; omega
  have HM := Lib.hid hm; clear hm
  have HX := Lib.hid hX; clear hX
  have HB := Lib.hid hbel; clear hbel
  have hs1 := HB.out.size
  go_wp2_with fail
  refine (rounded_any (m * 7) (e - 3) _ (by have := HM.out; omega) (by omega) (by rw [X_seven he, HX.out]; have := H1.out; have := HA1.out; omega)).mono ?_
  rintro r w2 ⟨rfl, hb2⟩
  rw [X_seven he, HX.out]
  have HB2 := Lib.hid hb2; clear hb2
  have hs2 := HB2.out.size
  simp at hs2
  go_wp2_with fail
  refine (of_num _ _ (Rnd.good_le H1.out)).mono ?_
  rintro r w3 ⟨m2, e2, rfl, hm2, he3, he4, hX2, hb3⟩
  rw [Rnd.rung_le H1.out] at hX2
  have HM2 := Lib.hid hm2; clear hm2
  have HX2 := Lib.hid hX2; clear hX2
  have HB3 := Lib.hid hb3; clear hb3
  have hs3 := HB3.out.size
  go_wp2_with fail
  refine (plus_any 1 m2 e2 _ (by omega) HM2.out he3 he4 (by rw [HX2.out]; have := HA.out; omega)).mono ?_
  rintro r w4 ⟨m3, e3, rfl, hS, hb4⟩
  have HS := Lib.hid hS; clear hS
  have HB4 := Lib.hid hb4; clear hb4
  have hs4 := HB4.out.size
  simp at hs4
  go_wp2_with fail
  refine (rounded_any m3 e3 _ HS.out.lt HS.out.ge HS.out.le).mono ?_
  rintro r w5 ⟨rfl, hb5⟩
  rw [HS.out.eq, HX2.out]
  have HB5 := Lib.hid hb5; clear hb5
  go_wp2
  go_ret
  refine ⟨ret_u (by unfold Rnd.samp; rw [Nat.add_comm]), ?_⟩
  refine Below.trans HB.out (Below.trans ((Below.refl w1.heap.size w1).alloc (Nat.le_refl _) _ |>.trans (HB2.out.mono (by simp))) ?_ |>.mono hs1)
  refine Below.trans (HB3.out.mono (by omega)) ?_
  refine Below.trans (((Below.refl w3.heap.size w3).alloc (Nat.le_refl _) _).trans (HB4.out.mono (by simp)) |>.mono (by omega)) ?_
  exact HB5.out.mono (by omega)

set_option maxRecDepth 100000 in
set_option maxHeartbeats 1000000 in
theorem rsample_4 (b : Nat) (w : World) (hg : Rnd.good b = true) :
    Calls Tryd.prog 11 #[.int .u32 b, .int .i64 (2 : Int)] w fun r w' => r = .returned (.int .u32 (Rnd.samp b 2)) ∧ Below w.heap.size w w' := by
  have hc : Rnd.good b = true := hg
  have H1 := Lib.hid (R1_le hc)
  have HA := Lib.hid (Rnd.A_old (Rnd.good_rung hc))
  have HA2 := Lib.hid (show Rnd.A (Rnd.R (7 * Rnd.A (Rnd.rung b) / 8)) ≤ 2 ^ 176 from Nat.le_trans HA.out (by decide))
  have HA1 := Lib.hid (show Rnd.A (Rnd.rung b) ≤ 2 ^ 176 by have := Rnd.A_mono (Rnd.good_rung hc); rwa [Rnd.A_one] at this)
  go_enter Tryd.func11, Tryd.ntmps11
  go_wp2_with (first | (go_at_call 7; refine (rgood_any _ _).mono ?_; rintro e w' ⟨rfl, rfl⟩) | (go_at_call 17; refine (rstart_any _).mono ?_; rintro e w' ⟨rfl, rfl⟩))
  refine (of_num b _ hc).mono ?_
  rintro r w1 ⟨m, e, rfl, hm, he, he2, hX, hbel⟩
  have mw : IntKind.u64.wrap ((m : Int) * 7) = ((m * 7 : Nat) : Int) := by rw [IntKind.wrap_u64]; omega
  have HM := Lib.hid hm; clear hm
  have HX := Lib.hid hX; clear hX
  have HB := Lib.hid hbel; clear hbel
  have hs1 := HB.out.size
  go_wp2_with fail
  refine (rounded_any (m * 7) (e - 3) _ (by have := HM.out; omega) (by omega) (by rw [X_seven he, HX.out]; have := H1.out; have := HA1.out; omega)).mono ?_
  rintro r w2 ⟨rfl, hb2⟩
  rw [X_seven he, HX.out]
  have HB2 := Lib.hid hb2; clear hb2
  have hs2 := HB2.out.size
  simp at hs2
  go_wp2_with fail
  refine (of_num _ _ (Rnd.good_le H1.out)).mono ?_
  rintro r w3 ⟨m2, e2, rfl, hm2, he3, he4, hX2, hb3⟩
  rw [Rnd.rung_le H1.out] at hX2
  have HM2 := Lib.hid hm2; clear hm2
  have HX2 := Lib.hid hX2; clear hX2
  have HB3 := Lib.hid hb3; clear hb3
  have hs3 := HB3.out.size
  go_wp2_with fail
  refine (plus_any 2 m2 e2 _ (by omega) HM2.out he3 he4 (by rw [HX2.out]; have := HA.out; omega)).mono ?_
  rintro r w4 ⟨m3, e3, rfl, hS, hb4⟩
  have HS := Lib.hid hS; clear hS
  have HB4 := Lib.hid hb4; clear hb4
  have hs4 := HB4.out.size
  simp at hs4
  go_wp2_with fail
  refine (rounded_any m3 e3 _ HS.out.lt HS.out.ge HS.out.le).mono ?_
  rintro r w5 ⟨rfl, hb5⟩
  rw [HS.out.eq, HX2.out]
  have HB5 := Lib.hid hb5; clear hb5
  go_wp2
  go_ret
  refine ⟨ret_u (by unfold Rnd.samp; rw [Nat.add_comm]), ?_⟩
  refine Below.trans HB.out (Below.trans ((Below.refl w1.heap.size w1).alloc (Nat.le_refl _) _ |>.trans (HB2.out.mono (by simp))) ?_ |>.mono hs1)
  refine Below.trans (HB3.out.mono (by omega)) ?_
  refine Below.trans (((Below.refl w3.heap.size w3).alloc (Nat.le_refl _) _).trans (HB4.out.mono (by simp)) |>.mono (by omega)) ?_
  exact HB5.out.mono (by omega)

set_option maxRecDepth 100000 in
set_option maxHeartbeats 1000000 in
theorem rsample_5 (b : Nat) (x : Int) (w : World) (hx : 2 < x) (hg : Rnd.good b = true) :
    Calls Tryd.prog 11 #[.int .u32 b, .int .i64 x] w fun r w' => r = .returned (.int .u32 (Rnd.samp b 2)) ∧ Below w.heap.size w w' := by
  have hc : Rnd.good b = true := hg
  have H1 := Lib.hid (R1_le hc)
  have HA := Lib.hid (Rnd.A_old (Rnd.good_rung hc))
  have HA2 := Lib.hid (show Rnd.A (Rnd.R (7 * Rnd.A (Rnd.rung b) / 8)) ≤ 2 ^ 176 from Nat.le_trans HA.out (by decide))
  have HA1 := Lib.hid (show Rnd.A (Rnd.rung b) ≤ 2 ^ 176 by have := Rnd.A_mono (Rnd.good_rung hc); rwa [Rnd.A_one] at this)
  go_enter Tryd.func11, Tryd.ntmps11
  go_wp2_with (first | (go_at_call 7; refine (rgood_any _ _).mono ?_; rintro e w' ⟨rfl, rfl⟩) | (go_at_call 17; refine (rstart_any _).mono ?_; rintro e w' ⟨rfl, rfl⟩))
  refine (of_num b _ hc).mono ?_
  rintro r w1 ⟨m, e, rfl, hm, he, he2, hX, hbel⟩
  have mw : IntKind.u64.wrap ((m : Int) * 7) = ((m * 7 : Nat) : Int) := by rw [IntKind.wrap_u64]; omega
  have HM := Lib.hid hm; clear hm
  have HX := Lib.hid hX; clear hX
  have HB := Lib.hid hbel; clear hbel
  have hs1 := HB.out.size
  go_wp2_with fail
  refine (rounded_any (m * 7) (e - 3) _ (by have := HM.out; omega) (by omega) (by rw [X_seven he, HX.out]; have := H1.out; have := HA1.out; omega)).mono ?_
  rintro r w2 ⟨rfl, hb2⟩
  rw [X_seven he, HX.out]
  have HB2 := Lib.hid hb2; clear hb2
  have hs2 := HB2.out.size
  simp at hs2
  go_wp2_with fail
  refine (of_num _ _ (Rnd.good_le H1.out)).mono ?_
  rintro r w3 ⟨m2, e2, rfl, hm2, he3, he4, hX2, hb3⟩
  rw [Rnd.rung_le H1.out] at hX2
  have HM2 := Lib.hid hm2; clear hm2
  have HX2 := Lib.hid hX2; clear hX2
  have HB3 := Lib.hid hb3; clear hb3
  have hs3 := HB3.out.size
  go_wp2_with fail
  refine (plus_any 2 m2 e2 _ (by omega) HM2.out he3 he4 (by rw [HX2.out]; have := HA.out; omega)).mono ?_
  rintro r w4 ⟨m3, e3, rfl, hS, hb4⟩
  have HS := Lib.hid hS; clear hS
  have HB4 := Lib.hid hb4; clear hb4
  have hs4 := HB4.out.size
  simp at hs4
  go_wp2_with fail
  refine (rounded_any m3 e3 _ HS.out.lt HS.out.ge HS.out.le).mono ?_
  rintro r w5 ⟨rfl, hb5⟩
  rw [HS.out.eq, HX2.out]
  have HB5 := Lib.hid hb5; clear hb5
  go_wp2
  go_ret
  refine ⟨ret_u (by unfold Rnd.samp; rw [Nat.add_comm]), ?_⟩
  refine Below.trans HB.out (Below.trans ((Below.refl w1.heap.size w1).alloc (Nat.le_refl _) _ |>.trans (HB2.out.mono (by simp))) ?_ |>.mono hs1)
  refine Below.trans (HB3.out.mono (by omega)) ?_
  refine Below.trans (((Below.refl w3.heap.size w3).alloc (Nat.le_refl _) _).trans (HB4.out.mono (by simp)) |>.mono (by omega)) ?_
  exact HB5.out.mono (by omega)

set_option maxRecDepth 100000 in
set_option maxHeartbeats 1000000 in
theorem rsample_6 (b : Nat) (x : Int) (w : World) (hx : x < 0) (hg : Rnd.good b = false) :
    Calls Tryd.prog 11 #[.int .u32 b, .int .i64 x] w fun r w' => r = .returned (.int .u32 (Rnd.samp 1065353216 0)) ∧ Below w.heap.size w w' := by
  have hc : Rnd.good 1065353216 = true := by decide
  have H1 := Lib.hid (R1_le hc)
  have HA := Lib.hid (Rnd.A_old (Rnd.good_rung hc))
  have HA2 := Lib.hid (show Rnd.A (Rnd.R (7 * Rnd.A (Rnd.rung 1065353216) / 8)) ≤ 2 ^ 176 from Nat.le_trans HA.out (by decide))
  have HA1 := Lib.hid (show Rnd.A (Rnd.rung 1065353216) ≤ 2 ^ 176 by have := Rnd.A_mono (Rnd.good_rung hc); rwa [Rnd.A_one] at this)
  go_enter Tryd.func11, Tryd.ntmps11
  go_wp2_with (first | (go_at_call 7; refine (rgood_any _ _).mono ?_; rintro e w' ⟨rfl, rfl⟩) | (go_at_call 17; refine (rstart_any _).mono ?_; rintro e w' ⟨rfl, rfl⟩))
  refine (of_num 1065353216 _ hc).mono ?_
  rintro r w1 ⟨m, e, rfl, hm, he, he2, hX, hbel⟩
  have mw : IntKind.u64.wrap ((m : Int) * 7) = ((m * 7 : Nat) : Int) := by rw [IntKind.wrap_u64]; omega
  have HM := Lib.hid hm; clear hm
  have HX := Lib.hid hX; clear hX
  have HB := Lib.hid hbel; clear hbel
  have hs1 := HB.out.size
  go_wp2_with fail
  refine (rounded_any (m * 7) (e - 3) _ (by have := HM.out; omega) (by omega) (by rw [X_seven he, HX.out]; have := H1.out; have := HA1.out; omega)).mono ?_
  rintro r w2 ⟨rfl, hb2⟩
  rw [X_seven he, HX.out]
  have HB2 := Lib.hid hb2; clear hb2
  have hs2 := HB2.out.size
  simp at hs2
  go_wp2_with fail
  refine (of_num _ _ (Rnd.good_le H1.out)).mono ?_
  rintro r w3 ⟨m2, e2, rfl, hm2, he3, he4, hX2, hb3⟩
  rw [Rnd.rung_le H1.out] at hX2
  have HM2 := Lib.hid hm2; clear hm2
  have HX2 := Lib.hid hX2; clear hX2
  have HB3 := Lib.hid hb3; clear hb3
  have hs3 := HB3.out.size
  go_wp2_with fail
  refine (plus_zero m2 e2 _).mono ?_
  rintro r w4 ⟨rfl, hb4⟩
  have HB4 := Lib.hid hb4; clear hb4
  have hs4 := HB4.out.size
  simp at hs4
  go_wp2_with fail
  refine (rounded_any m2 e2 _ (by have := HM2.out; omega) (by omega) (by rw [HX2.out]; exact HA2.out)).mono ?_
  rintro r w5 ⟨rfl, hb5⟩
  rw [HX2.out]
  have HB5 := Lib.hid hb5; clear hb5
  go_wp2
  go_ret
  refine ⟨ret_u (by rw [samp_nought]), ?_⟩
  refine Below.trans HB.out (Below.trans ((Below.refl w1.heap.size w1).alloc (Nat.le_refl _) _ |>.trans (HB2.out.mono (by simp))) ?_ |>.mono hs1)
  refine Below.trans (HB3.out.mono (by omega)) ?_
  refine Below.trans (((Below.refl w3.heap.size w3).alloc (Nat.le_refl _) _).trans (HB4.out.mono (by simp)) |>.mono (by omega)) ?_
  exact HB5.out.mono (by omega)

set_option maxRecDepth 100000 in
set_option maxHeartbeats 1000000 in
theorem rsample_7 (b : Nat) (w : World) (hg : Rnd.good b = false) :
    Calls Tryd.prog 11 #[.int .u32 b, .int .i64 (0 : Int)] w fun r w' => r = .returned (.int .u32 (Rnd.samp 1065353216 0)) ∧ Below w.heap.size w w' := by
  have hc : Rnd.good 1065353216 = true := by decide
  have H1 := Lib.hid (R1_le hc)
  have HA := Lib.hid (Rnd.A_old (Rnd.good_rung hc))
  have HA2 := Lib.hid (show Rnd.A (Rnd.R (7 * Rnd.A (Rnd.rung 1065353216) / 8)) ≤ 2 ^ 176 from Nat.le_trans HA.out (by decide))
  have HA1 := Lib.hid (show Rnd.A (Rnd.rung 1065353216) ≤ 2 ^ 176 by have := Rnd.A_mono (Rnd.good_rung hc); rwa [Rnd.A_one] at this)
  go_enter Tryd.func11, Tryd.ntmps11
  go_wp2_with (first | (go_at_call 7; refine (rgood_any _ _).mono ?_; rintro e w' ⟨rfl, rfl⟩) | (go_at_call 17; refine (rstart_any _).mono ?_; rintro e w' ⟨rfl, rfl⟩))
  refine (of_num 1065353216 _ hc).mono ?_
  rintro r w1 ⟨m, e, rfl, hm, he, he2, hX, hbel⟩
  have mw : IntKind.u64.wrap ((m : Int) * 7) = ((m * 7 : Nat) : Int) := by rw [IntKind.wrap_u64]; omega
  have HM := Lib.hid hm; clear hm
  have HX := Lib.hid hX; clear hX
  have HB := Lib.hid hbel; clear hbel
  have hs1 := HB.out.size
  go_wp2_with fail
  refine (rounded_any (m * 7) (e - 3) _ (by have := HM.out; omega) (by omega) (by rw [X_seven he, HX.out]; have := H1.out; have := HA1.out; omega)).mono ?_
  rintro r w2 ⟨rfl, hb2⟩
  rw [X_seven he, HX.out]
  have HB2 := Lib.hid hb2; clear hb2
  have hs2 := HB2.out.size
  simp at hs2
  go_wp2_with fail
  refine (of_num _ _ (Rnd.good_le H1.out)).mono ?_
  rintro r w3 ⟨m2, e2, rfl, hm2, he3, he4, hX2, hb3⟩
  rw [Rnd.rung_le H1.out] at hX2
  have HM2 := Lib.hid hm2; clear hm2
  have HX2 := Lib.hid hX2; clear hX2
  have HB3 := Lib.hid hb3; clear hb3
  have hs3 := HB3.out.size
  go_wp2_with fail
  refine (plus_zero m2 e2 _).mono ?_
  rintro r w4 ⟨rfl, hb4⟩
  have HB4 := Lib.hid hb4; clear hb4
  have hs4 := HB4.out.size
  simp at hs4
  go_wp2_with fail
  refine (rounded_any m2 e2 _ (by have := HM2.out; omega) (by omega) (by rw [HX2.out]; exact HA2.out)).mono ?_
  rintro r w5 ⟨rfl, hb5⟩
  rw [HX2.out]
  have HB5 := Lib.hid hb5; clear hb5
  go_wp2
  go_ret
  refine ⟨ret_u (by rw [samp_nought]), ?_⟩
  refine Below.trans HB.out (Below.trans ((Below.refl w1.heap.size w1).alloc (Nat.le_refl _) _ |>.trans (HB2.out.mono (by simp))) ?_ |>.mono hs1)
  refine Below.trans (HB3.out.mono (by omega)) ?_
  refine Below.trans (((Below.refl w3.heap.size w3).alloc (Nat.le_refl _) _).trans (HB4.out.mono (by simp)) |>.mono (by omega)) ?_
  exact HB5.out.mono (by omega)

set_option maxRecDepth 100000 in
set_option maxHeartbeats 1000000 in
theorem rsample_8 (b : Nat) (w : World) (hg : Rnd.good b = false) :
    Calls Tryd.prog 11 #[.int .u32 b, .int .i64 (1 : Int)] w fun r w' => r = .returned (.int .u32 (Rnd.samp 1065353216 1)) ∧ Below w.heap.size w w' := by
  have hc : Rnd.good 1065353216 = true := by decide
  have H1 := Lib.hid (R1_le hc)
  have HA := Lib.hid (Rnd.A_old (Rnd.good_rung hc))
  have HA2 := Lib.hid (show Rnd.A (Rnd.R (7 * Rnd.A (Rnd.rung 1065353216) / 8)) ≤ 2 ^ 176 from Nat.le_trans HA.out (by decide))
  have HA1 := Lib.hid (show Rnd.A (Rnd.rung 1065353216) ≤ 2 ^ 176 by have := Rnd.A_mono (Rnd.good_rung hc); rwa [Rnd.A_one] at this)
  go_enter Tryd.func11, Tryd.ntmps11
  go_wp2_with (first | (go_at_call 7; refine (rgood_any _ _).mono ?_; rintro e w' ⟨rfl, rfl⟩) | (go_at_call 17; refine (rstart_any _).mono ?_; rintro e w' ⟨rfl, rfl⟩))
  refine (of_num 1065353216 _ hc).mono ?_
  rintro r w1 ⟨m, e, rfl, hm, he, he2, hX, hbel⟩
  have mw : IntKind.u64.wrap ((m : Int) * 7) = ((m * 7 : Nat) : Int) := by rw [IntKind.wrap_u64]; omega
  have HM := Lib.hid hm; clear hm
  have HX := Lib.hid hX; clear hX
  have HB := Lib.hid hbel; clear hbel
  have hs1 := HB.out.size
  go_wp2_with fail
  refine (rounded_any (m * 7) (e - 3) _ (by have := HM.out; omega) (by omega) (by rw [X_seven he, HX.out]; have := H1.out; have := HA1.out; omega)).mono ?_
  rintro r w2 ⟨rfl, hb2⟩
  rw [X_seven he, HX.out]
  have HB2 := Lib.hid hb2; clear hb2
  have hs2 := HB2.out.size
  simp at hs2
  go_wp2_with fail
  refine (of_num _ _ (Rnd.good_le H1.out)).mono ?_
  rintro r w3 ⟨m2, e2, rfl, hm2, he3, he4, hX2, hb3⟩
  rw [Rnd.rung_le H1.out] at hX2
  have HM2 := Lib.hid hm2; clear hm2
  have HX2 := Lib.hid hX2; clear hX2
  have HB3 := Lib.hid hb3; clear hb3
  have hs3 := HB3.out.size
  go_wp2_with fail
  refine (plus_any 1 m2 e2 _ (by omega) HM2.out he3 he4 (by rw [HX2.out]; have := HA.out; omega)).mono ?_
  rintro r w4 ⟨m3, e3, rfl, hS, hb4⟩
  have HS := Lib.hid hS; clear hS
  have HB4 := Lib.hid hb4; clear hb4
  have hs4 := HB4.out.size
  simp at hs4
  go_wp2_with fail
  refine (rounded_any m3 e3 _ HS.out.lt HS.out.ge HS.out.le).mono ?_
  rintro r w5 ⟨rfl, hb5⟩
  rw [HS.out.eq, HX2.out]
  have HB5 := Lib.hid hb5; clear hb5
  go_wp2
  go_ret
  refine ⟨ret_u (by unfold Rnd.samp; rw [Nat.add_comm]), ?_⟩
  refine Below.trans HB.out (Below.trans ((Below.refl w1.heap.size w1).alloc (Nat.le_refl _) _ |>.trans (HB2.out.mono (by simp))) ?_ |>.mono hs1)
  refine Below.trans (HB3.out.mono (by omega)) ?_
  refine Below.trans (((Below.refl w3.heap.size w3).alloc (Nat.le_refl _) _).trans (HB4.out.mono (by simp)) |>.mono (by omega)) ?_
  exact HB5.out.mono (by omega)

set_option maxRecDepth 100000 in
set_option maxHeartbeats 1000000 in
theorem rsample_9 (b : Nat) (w : World) (hg : Rnd.good b = false) :
    Calls Tryd.prog 11 #[.int .u32 b, .int .i64 (2 : Int)] w fun r w' => r = .returned (.int .u32 (Rnd.samp 1065353216 2)) ∧ Below w.heap.size w w' := by
  have hc : Rnd.good 1065353216 = true := by decide
  have H1 := Lib.hid (R1_le hc)
  have HA := Lib.hid (Rnd.A_old (Rnd.good_rung hc))
  have HA2 := Lib.hid (show Rnd.A (Rnd.R (7 * Rnd.A (Rnd.rung 1065353216) / 8)) ≤ 2 ^ 176 from Nat.le_trans HA.out (by decide))
  have HA1 := Lib.hid (show Rnd.A (Rnd.rung 1065353216) ≤ 2 ^ 176 by have := Rnd.A_mono (Rnd.good_rung hc); rwa [Rnd.A_one] at this)
  go_enter Tryd.func11, Tryd.ntmps11
  go_wp2_with (first | (go_at_call 7; refine (rgood_any _ _).mono ?_; rintro e w' ⟨rfl, rfl⟩) | (go_at_call 17; refine (rstart_any _).mono ?_; rintro e w' ⟨rfl, rfl⟩))
  refine (of_num 1065353216 _ hc).mono ?_
  rintro r w1 ⟨m, e, rfl, hm, he, he2, hX, hbel⟩
  have mw : IntKind.u64.wrap ((m : Int) * 7) = ((m * 7 : Nat) : Int) := by rw [IntKind.wrap_u64]; omega
  have HM := Lib.hid hm; clear hm
  have HX := Lib.hid hX; clear hX
  have HB := Lib.hid hbel; clear hbel
  have hs1 := HB.out.size
  go_wp2_with fail
  refine (rounded_any (m * 7) (e - 3) _ (by have := HM.out; omega) (by omega) (by rw [X_seven he, HX.out]; have := H1.out; have := HA1.out; omega)).mono ?_
  rintro r w2 ⟨rfl, hb2⟩
  rw [X_seven he, HX.out]
  have HB2 := Lib.hid hb2; clear hb2
  have hs2 := HB2.out.size
  simp at hs2
  go_wp2_with fail
  refine (of_num _ _ (Rnd.good_le H1.out)).mono ?_
  rintro r w3 ⟨m2, e2, rfl, hm2, he3, he4, hX2, hb3⟩
  rw [Rnd.rung_le H1.out] at hX2
  have HM2 := Lib.hid hm2; clear hm2
  have HX2 := Lib.hid hX2; clear hX2
  have HB3 := Lib.hid hb3; clear hb3
  have hs3 := HB3.out.size
  go_wp2_with fail
  refine (plus_any 2 m2 e2 _ (by omega) HM2.out he3 he4 (by rw [HX2.out]; have := HA.out; omega)).mono ?_
  rintro r w4 ⟨m3, e3, rfl, hS, hb4⟩
  have HS := Lib.hid hS; clear hS
  have HB4 := Lib.hid hb4; clear hb4
  have hs4 := HB4.out.size
  simp at hs4
  go_wp2_with fail
  refine (rounded_any m3 e3 _ HS.out.lt HS.out.ge HS.out.le).mono ?_
  rintro r w5 ⟨rfl, hb5⟩
  rw [HS.out.eq, HX2.out]
  have HB5 := Lib.hid hb5; clear hb5
  go_wp2
  go_ret
  refine ⟨ret_u (by unfold Rnd.samp; rw [Nat.add_comm]), ?_⟩
  refine Below.trans HB.out (Below.trans ((Below.refl w1.heap.size w1).alloc (Nat.le_refl _) _ |>.trans (HB2.out.mono (by simp))) ?_ |>.mono hs1)
  refine Below.trans (HB3.out.mono (by omega)) ?_
  refine Below.trans (((Below.refl w3.heap.size w3).alloc (Nat.le_refl _) _).trans (HB4.out.mono (by simp)) |>.mono (by omega)) ?_
  exact HB5.out.mono (by omega)

set_option maxRecDepth 100000 in
set_option maxHeartbeats 1000000 in
theorem rsample_10 (b : Nat) (x : Int) (w : World) (hx : 2 < x) (hg : Rnd.good b = false) :
    Calls Tryd.prog 11 #[.int .u32 b, .int .i64 x] w fun r w' => r = .returned (.int .u32 (Rnd.samp 1065353216 2)) ∧ Below w.heap.size w w' := by
  have hc : Rnd.good 1065353216 = true := by decide
  have H1 := Lib.hid (R1_le hc)
  have HA := Lib.hid (Rnd.A_old (Rnd.good_rung hc))
  have HA2 := Lib.hid (show Rnd.A (Rnd.R (7 * Rnd.A (Rnd.rung 1065353216) / 8)) ≤ 2 ^ 176 from Nat.le_trans HA.out (by decide))
  have HA1 := Lib.hid (show Rnd.A (Rnd.rung 1065353216) ≤ 2 ^ 176 by have := Rnd.A_mono (Rnd.good_rung hc); rwa [Rnd.A_one] at this)
  go_enter Tryd.func11, Tryd.ntmps11
  go_wp2_with (first | (go_at_call 7; refine (rgood_any _ _).mono ?_; rintro e w' ⟨rfl, rfl⟩) | (go_at_call 17; refine (rstart_any _).mono ?_; rintro e w' ⟨rfl, rfl⟩))
  refine (of_num 1065353216 _ hc).mono ?_
  rintro r w1 ⟨m, e, rfl, hm, he, he2, hX, hbel⟩
  have mw : IntKind.u64.wrap ((m : Int) * 7) = ((m * 7 : Nat) : Int) := by rw [IntKind.wrap_u64]; omega
  have HM := Lib.hid hm; clear hm
  have HX := Lib.hid hX; clear hX
  have HB := Lib.hid hbel; clear hbel
  have hs1 := HB.out.size
  go_wp2_with fail
  refine (rounded_any (m * 7) (e - 3) _ (by have := HM.out; omega) (by omega) (by rw [X_seven he, HX.out]; have := H1.out; have := HA1.out; omega)).mono ?_
  rintro r w2 ⟨rfl, hb2⟩
  rw [X_seven he, HX.out]
  have HB2 := Lib.hid hb2; clear hb2
  have hs2 := HB2.out.size
  simp at hs2
  go_wp2_with fail
  refine (of_num _ _ (Rnd.good_le H1.out)).mono ?_
  rintro r w3 ⟨m2, e2, rfl, hm2, he3, he4, hX2, hb3⟩
  rw [Rnd.rung_le H1.out] at hX2
  have HM2 := Lib.hid hm2; clear hm2
  have HX2 := Lib.hid hX2; clear hX2
  have HB3 := Lib.hid hb3; clear hb3
  have hs3 := HB3.out.size
  go_wp2_with fail
  refine (plus_any 2 m2 e2 _ (by omega) HM2.out he3 he4 (by rw [HX2.out]; have := HA.out; omega)).mono ?_
  rintro r w4 ⟨m3, e3, rfl, hS, hb4⟩
  have HS := Lib.hid hS; clear hS
  have HB4 := Lib.hid hb4; clear hb4
  have hs4 := HB4.out.size
  simp at hs4
  go_wp2_with fail
  refine (rounded_any m3 e3 _ HS.out.lt HS.out.ge HS.out.le).mono ?_
  rintro r w5 ⟨rfl, hb5⟩
  rw [HS.out.eq, HX2.out]
  have HB5 := Lib.hid hb5; clear hb5
  go_wp2
  go_ret
  refine ⟨ret_u (by unfold Rnd.samp; rw [Nat.add_comm]), ?_⟩
  refine Below.trans HB.out (Below.trans ((Below.refl w1.heap.size w1).alloc (Nat.le_refl _) _ |>.trans (HB2.out.mono (by simp))) ?_ |>.mono hs1)
  refine Below.trans (HB3.out.mono (by omega)) ?_
  refine Below.trans (((Below.refl w3.heap.size w3).alloc (Nat.le_refl _) _).trans (HB4.out.mono (by simp)) |>.mono (by omega)) ?_
  exact HB5.out.mono (by omega)

theorem rsample_way (b : Nat) (x : Int) (c n : Nat) (w : World)
    (hb : (Rnd.good b = true ∧ c = b) ∨ (Rnd.good b = false ∧ c = 1065353216)) (hx : (x < 0 ∧ n = 0) ∨ (x = 0 ∧ n = 0) ∨ (x = 1 ∧ n = 1) ∨ (x = 2 ∧ n = 2) ∨ (2 < x ∧ n = 2)) :
    Calls Tryd.prog 11 #[.int .u32 b, .int .i64 x] w fun r w' => r = .returned (.int .u32 (Rnd.samp c n)) ∧ Below w.heap.size w w' := by
  rcases hb with ⟨hg, rfl⟩ | ⟨hg, rfl⟩
  · rcases hx with ⟨hx, rfl⟩ | ⟨rfl, rfl⟩ | ⟨rfl, rfl⟩ | ⟨rfl, rfl⟩ | ⟨hx, rfl⟩
    · exact rsample_1 c x w hx hg
    · exact rsample_2 c w hg
    · exact rsample_3 c w hg
    · exact rsample_4 c w hg
    · exact rsample_5 c x w hx hg
  · rcases hx with ⟨hx, rfl⟩ | ⟨rfl, rfl⟩ | ⟨rfl, rfl⟩ | ⟨rfl, rfl⟩ | ⟨hx, rfl⟩
    · exact rsample_6 b x w hx hg
    · exact rsample_7 b w hg
    · exact rsample_8 b w hg
    · exact rsample_9 b w hg
    · exact rsample_10 b x w hx hg

theorem rsample_any (b : Nat) (x : Int) (w : World) :
    Calls Tryd.prog 11 #[.int .u32 b, .int .i64 x] w fun r w' => r = .returned (.int .u32 (Rnd.samp (Rnd.hp b) (Rnd.clampN x))) ∧ Below w.heap.size w w' := by
  refine rsample_way b x _ _ w ?_ ?_
  · unfold Rnd.hp
    cases hg : Rnd.good b
    · exact .inr ⟨rfl, rfl⟩
    · exact .inl ⟨rfl, rfl⟩
  · unfold Rnd.clampN
    by_cases h1 : x ≤ 0
    · rw [if_pos h1]; omega
    · rw [if_neg h1]
      by_cases h2 : x = 1
      · rw [if_pos h2]; omega
      · rw [if_neg h2]; omega
end Go.Proofs.YtjjacehacfbolaaDoor
