/- IdentTokens, walked: whatever the number and the token, the law answers true. -/
import Derived.Test.YtfcalpfpfibbfaaDoorRefNumber
namespace Go.Proofs.YtfcalpfpfibbfaaDoor
open Go.RowKit Go.Sort

theorem tokE_le (n : Int) : tokE n ≤ 37 := by unfold tokE; split <;> omega
theorem numE_le (s : ByteArray) : numE s ≤ 37 := by unfold numE; split; · omega
                                                    split; · omega
                                                    split <;> omega
theorem same_neq (w : World) (a : Addr) : (binOp .neq 24 (.iface 105 (.pointer (some a))) (.iface 105 (.pointer (some a)))).run Tryd.prog w = .ok (.bool false) w := by
  obtain ⟨i, hi, hc⟩ := Option.map_eq_some_iff.1 info105
  obtain ⟨j, hj, _⟩ := Option.map_eq_some_iff.1 info107
  simp only [binOp]
  simp [Op.equal, Op.maxDepth, run_equalIn_iface_ptr_same w 9998 a Tryd.underlying24 Tryd.underlying105 hi hc hj]
theorem tok0 : tokS 0 = ⟨#[]⟩ ∧ tokE 0 = 6 := tokS_bad (by rfl)

set_option maxRecDepth 100000 in
set_option maxHeartbeats 1000000 in
theorem tokens_walk (B : Nat → Addr) (n : Int) (s : ByteArray) (w : World) (hE : Env w B) (htab : Tab w) :
    Calls Tryd.prog 6 #[.int .i64 n, .string s] w fun e w' => e = .returned (.bool true) ∧ Below w.heap.size w w' := by
  have TB := Lib.hid (Lib.tabBelow_of_tabIs htab)
  have a0 := token_any B 0 w (EnvN.sub hE (by decide)) htab
  rw [tok0.1, tok0.2, ev_6] at a0
  have a1 := fun w h => token_any B n w h
  have a2 := fun w => refToken_any n w
  have a3 := fun w h => number_any B s w h
  have a4 := fun w => refNumber_any s w
  have l1 := tokE_le n
  have l2 := numE_le s
  have n1 := fun w h => num_any B w h (tokE n) l1
  have n2 := fun w h => num_any B w h (numE s) l2
  have HE := Lib.hid hE; clear hE htab
  have E4 := Lib.hid (show ∀ w, Env w B → Env4 w B from fun w h => EnvN.sub h (by decide))
  have E3 := Lib.hid (show ∀ w, Env w B → Env3 w B from fun w h => EnvN.sub h (by decide))
  generalize tokE n = c1 at *
  generalize tokS n = t1 at *
  generalize numE s = c2 at *
  generalize numN s = v2 at *
  generalize ev B c1 = e1 at *
  generalize ev B c2 = e2 at *
  clear l1 l2
  have hneq := fun w => same_neq w (B 1)
  go_enter Tryd.func6, Tryd.ntmps6
  go_wp2_with fail
  refine a0.mono ?_
  rintro e w1 ⟨rfl, hb1⟩
  have HB1 := Lib.hid hb1
  have c1' := (HE.out.below HB1.out).cell 1 (by decide)
  clear hb1
  go_wp2_with fail
  refine (a1 _ (E4.out _ (HE.out.below HB1.out)) (TB.out _ HB1.out)).mono ?_
  rintro e w2 ⟨rfl, hb2⟩
  have HB2 := Lib.hid (HB1.out.trans (hb2.mono HB1.out.size)); clear hb2
  go_wp2_with fail
  refine (a2 _).mono ?_
  rintro e w3 ⟨rfl, hb3⟩
  have HB3 := Lib.hid (HB2.out.trans (hb3.mono HB2.out.size)); clear hb3
  go_wp2_with fail
  refine (n1 _ (HE.out.below HB3.out)).mono ?_
  rintro e w4 ⟨rfl, hb4⟩
  have HB4 := Lib.hid (HB3.out.trans (hb4.mono HB3.out.size)); clear hb4
  go_wp2_with fail
  refine (a3 _ (E3.out _ (HE.out.below HB4.out))).mono ?_
  rintro e w5 ⟨rfl, hb5⟩
  have HB5 := Lib.hid (HB4.out.trans (hb5.mono HB4.out.size)); clear hb5
  go_wp2_with fail
  refine (a4 _).mono ?_
  rintro e w6 ⟨rfl, hb6⟩
  have HB6 := Lib.hid (HB5.out.trans (hb6.mono HB5.out.size)); clear hb6
  go_wp2_with fail
  refine (n2 _ (HE.out.below HB6.out)).mono ?_
  rintro e w7 ⟨rfl, hb7⟩
  have HB7 := Lib.hid (HB6.out.trans (hb7.mono HB6.out.size)); clear hb7
  go_wp2_with fail
  go_ret
  exact ⟨rfl, HB7.out⟩
end Go.Proofs.YtfcalpfpfibbfaaDoor
