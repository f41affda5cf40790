/- GaugeBests: whatever the healths and which may be taken, Best is the document's answer, the lists stay, and what came in reads as before. No condition. -/
import Derived.Test.YtjjacehacfbolaaBests
import Derived.Test.YtjjacehacfbolaaOpen
namespace Go.Proofs.Ytjjacehacfbolaa.gaugeBests
open Go.ChangeShapes Go.WideShapes Go.ChangeAt Go.RowKit

theorem own : ownKnob Try.prog.godebug = none := by kernel_rfl
theorem laidOut : laidOutB Try.prog = true := by kernel_rfl
theorem bytes22 : Try.checked.prog.bytesOf 22 = 4 := by kernel_rfl
theorem bytes4 : Try.checked.prog.bytesOf 4 = 1 := by kernel_rfl

set_option maxRecDepth 100000 in
theorem lifted (os : Os) (started : os.Started) (H : Type) (enc : TypeId × Value → H) :
    ReturnsInHanded {} Try.checked os 5 .any (Rows.gaugeBestsSpec.pre6 enc Try.prog Try.f5 Rows.gaugeBestsRow.domain false) (Rows.gaugeBestsSpec.post enc Try.prog Try.f5 false true false false) := by
  refine returnsInHanded_of_change_sized (C := Try.checked) own started (by kernel_rfl) Try.func5
    (ChangeSpec.witness6 (enc := enc) (C := Try.checked) false ⟨#[], #[.slice none 0 0, .slice none 0 0], []⟩ 8 (by kernel_rfl) (by kernel_rfl) (by kernel_rfl) (by kernel_rfl)) ?_
  intro W base args ds gs before hval0 hW hcnd hsz _
  have hval : ∀ (j : Nat) t v, Try.f5.params[j]? = some t → args[j]? = some v → Value.okWide Try.prog W .any base t v := hval0
  have hW' := hW
  obtain ⟨p, q, hA0, hV, rfl, hfz, hnd⟩ := hW
  have hA : DataW.TrodAll enc Try.prog W 0 (fun _ => true) true Try.f5.params.toList args.toList ds p := hA0
  rw [Try.params5] at hA hval
  obtain ⟨v0, vs0, d0, ds0, p0, q0, hargs, rfl, rfl, h0, r0⟩ := trodAll_cons hA
  obtain ⟨v1, vs1, d1, ds1, p1, q1, rfl, rfl, rfl, h1, r1⟩ := trodAll_cons r0
  obtain ⟨rfl, rfl, rfl⟩ := trodAll_nil r1
  obtain rfl : args = #[v0, v1] := by cases args; simp_all
  obtain ⟨rfl, rfl⟩ := trodVars_none hV
  have lt0 : ∀ x ∈ p0, x.block < W.heap.size := by obtain ⟨m, hm⟩ := h0; exact DataW.trod_lt m _ _ _ hm
  have lt1 : ∀ x ∈ p1, x.block < W.heap.size := by obtain ⟨m, hm⟩ := h1; exact DataW.trod_lt m _ _ _ hm
  obtain ⟨A0, n0, c0, z0, L0, R0, e0, x0, l0, s0, b0⟩ := open_u32s (hval 0 29 v0 rfl rfl) h0
  obtain ⟨A1, n1, c1, z1, L1, R1, e1, x1, l1, s1⟩ := open_bs (hval 1 30 v1 rfl rfl) h1
  have g0 := sized_any hsz (j := 0) (t := 29) (e := 22) rfl rfl Try.underlying29 x0
  have g1 := sized_any hsz (j := 1) (t := 30) (e := 4) rfl rfl Try.underlying30 x1
  rw [bytes22] at g0
  rw [bytes4] at g1
  subst e0 e1
  clear hA0 hval0
  refine (bests_walk A0 n0 c0 A1 n1 c1 z0 z1 W s0 s1 b0 (by omega) (by omega)).mono fun e W' ⟨he, bel⟩ => ?_
  subst he
  exact ⟨_, rfl, _, _, _, [], _, [], hW', trodAll_mk1 (shut_bool Try.underlying4 _), (trodAll_cons_mk (Below.trod laidOut (by kernel_rfl) (of_decide_eq_true (by kernel_rfl)) h0 bel lt0) (trodAll_cons_mk (Below.trod laidOut (by kernel_rfl) (of_decide_eq_true (by kernel_rfl)) h1 bel lt1) trodAll_mk0)), rfl, bel.frame _, fun h => by cases h⟩

theorem over : Rows.gaugeBestsRow.holds Try.pinned (OpenSpec.ofChange Rows.gaugeBestsSpec) :=
  OpenClaim.holds_of_wide 5 Try.f5 rfl rfl rfl rfl rfl rfl rfl ⟨rfl, rfl, rfl, rfl, rfl⟩ rfl rfl rfl rfl rfl (by kernel_rfl) Try.func5 (by kernel_rfl)
    (of_decide_eq_true (by kernel_rfl)) (by unfold Func.isWrapper; first | (rw [if_pos (by decide +kernel)]; kernel_rfl) | (rw [if_neg (by decide +kernel)]; exact ⟨rfl, rfl⟩))
    (fun os started H enc _ => lifted os started H enc)
end Go.Proofs.Ytjjacehacfbolaa.gaugeBests
namespace Go.Proofs.Ytjjacehacfbolaa
/-- The statement. -/
theorem gaugeBests_holds : Rows.GaugeBestsSaid := gaugeBests.over
#print axioms gaugeBests_holds
end Go.Proofs.Ytjjacehacfbolaa
