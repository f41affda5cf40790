/- MoneyMemory, where what comes in is of bulk at most 1048576: whatever the amount, the weights and the list of amounts: weights that are handed in stay and are not kept, shares are new memory each time, a list of amounts that is handed in stays: the law answers true and what came in reads as before. The sentinel errors and tables that the row lists are tied to the program's text; the six variables that are left open are never read. -/
import Derived.Test.YthkobjbemmllfaaGreatDoorOwnM
import Derived.Test.YthkobjbemmllfaaGreatDoorMemW
import Derived.Test.YthkobjbemmllfaaGreatDoorJMemory
import Derived.Test.YthkobjbemmllfaaGreatDoorTie
import Derived.Test.YthkobjbemmllfaaGreatDoorCards
import Derived.ProofKit
import Derived.OpenShut
import Derived.LaidMore
import Derived.Stop.Joined
import Derived.Stop.LaidErr
import Derived.ShutString
import Derived.ChangeOld
import Derived.Below
import Derived.SizedLaws
import Derived.SevenTiedAt
import Derived.Deep.DeepHandedRow
import Derived.Deep.DeepWitnessRowRef

namespace Go.Proofs.YthkobjbemmllfaaGreatDoor.moneyMemoryUpto
open Go.ChangeShapes Go.WideShapes Go.ChangeAt Go.RowKit 
open Go.ChangeMaps (open_string shut_string)

theorem door_met (os : Os) (args : Array Value) : laidMetH Tryz.prog Rows.moneyMemoryUptoRow.laid (((World.doorLaid Tryz.prog 795 os)).forCall (fun _ _ => 0) ⟨#[], args, []⟩).memory :=
  laidMetH_of_parts3 (fuel := 8) (laidMet_of_run' 8 (by kernel_rfl) (by kernel_rfl)) (by kernel_rfl) (by kernel_rfl)
theorem reads (os : Os) {H : Type} (enc : TypeId × Value → H) : ∃ places, DataW.whole enc Tryz.prog (((World.doorLaid Tryz.prog 795 os)).forCall (fun _ _ => 0) ⟨#[], #[.int .i64 0, .slice none 0 0, .slice none 0 0], []⟩).memory Tryz.f3.params.toList Rows.moneyMemorySpec.vars false (#[.int .i64 0, .slice none 0 0, .slice none 0 0] : Array Value).toList 8 = some ([.lit (.int .i64 0), .nil, .nil], [], places) :=
  ⟨[], by kernel_rfl⟩

theorem of_laid {W : World} (h : laidMetH Tryz.prog Rows.moneyMemoryUptoRow.laid W) : Env W (ptrAt W) ∧ Tab W := by
  rw [MakeChecks.laidMetH_plain _ _ _ (by kernel_rfl)] at h
  exact ⟨env_of_laid errTypes h Gs (by kernel_rfl), Lib.tabIs_of_head gPow tPow Tryz.underlying151 Tryz.underlying64 (by kernel_rfl) (by kernel_rfl) h.tail.tail⟩

set_option maxRecDepth 100000 in
theorem lifted (os : Os) (started : os.Started) (H : Type) (enc : TypeId × Value → H) (F : Stop.Interp) :
    ReturnsInHanded {} Tryz.checked os 3 .any ((Rows.OpenSpec.upto Rows.moneyMemorySpec).preRow enc Tryz.prog Tryz.f3 Rows.moneyMemoryUptoRow.domain false Rows.moneyMemoryUptoRow.laid) (((Rows.OpenSpec.upto Rows.moneyMemorySpec).at F).post enc Tryz.prog Tryz.f3 false true false false) := by
  obtain ⟨places, hx⟩ := reads os enc
  refine returnsInHanded_of_row (C := Tryz.checked) (s := Rows.OpenSpec.upto Rows.moneyMemorySpec) own started (by kernel_rfl) Tryz.func3
    (witness_row_atRef (enc := enc) (C := Tryz.checked) false (World.doorLaid Tryz.prog 795 os) #[.int .i64 0, .slice none 0 0, .slice none 0 0] rfl (by kernel_rfl) (by kernel_rfl) (by kernel_rfl)
      (OpenSpec.preRow_of_cond 8 hx (by kernel_rfl) (fun k hk => by cases hk; kernel_rfl) (by kernel_rfl) (door_met os _))) ?_
  intro W base args ds gs before hval0 hW _ hcond hsz hL _ _
  have hk := hcond _ rfl
  have hval : ∀ (j : Nat) t v, Tryz.f3.params[j]? = some t → args[j]? = some v → Value.okWide Tryz.prog W .any base t v := hval0
  have hW' := hW
  obtain ⟨p, q, hA0, hV, rfl, hfz, hnd⟩ := hW
  have hA : DataW.TrodAll enc Tryz.prog W 0 (fun _ => true) true Tryz.f3.params.toList args.toList ds p := hA0
  rw [Tryz.params3] at hA hval
  obtain ⟨v0, vs0, d0, ds0, p0, q0, hargs, rfl, rfl, h0, r0⟩ := trodAll_cons hA
  obtain ⟨v1, vs1, d1, ds1, p1, q1, rfl, rfl, rfl, h1, r1⟩ := trodAll_cons r0
  obtain ⟨v2, vs2, d2, ds2, p2, q2, rfl, rfl, rfl, h2, r2⟩ := trodAll_cons r1
  obtain ⟨rfl, rfl, rfl⟩ := trodAll_nil r2
  obtain rfl : args = #[v0, v1, v2] := by cases args; simp_all
  obtain ⟨rfl, rfl⟩ := trodVars_none hV
  have hkb := bulks.bound hk
  obtain ⟨a0, rfl, rfl, rfl, w0⟩ := open_int Tryz.underlying2 (hval 0 2 v0 rfl rfl) h0
  have lt1 : ∀ x ∈ p1, x.block < W.heap.size := by obtain ⟨m, hm⟩ := h1; exact DataW.trod_lt m _ _ _ hm
  obtain ⟨A1, n1, c1, f1, S1, T1⟩ := open_ws (hval 1 22 v1 rfl rfl) h1
  obtain rfl := S1.eq
  have lt2 : ∀ x ∈ p2, x.block < W.heap.size := by obtain ⟨m, hm⟩ := h2; exact DataW.trod_lt m _ _ _ hm
  obtain ⟨A2, n2, c2, f2, S2, T2⟩ := open_i64s (hval 2 23 v2 rfl rfl) h2
  obtain rfl := S2.eq
  obtain ⟨hE, htab⟩ := of_laid hL
  obtain ⟨la, ua⟩ := bounds_i64 w0
  simp only [List.append_nil, List.cons_append, List.nil_append, Rows.uptoBulkAll, Nat.add_zero] at hkb
  clear hA0 hval0
  refine (memory_walk (ptrAt W) a0 A1 A2 n1 c1 n2 c2 f1 f2 W hE htab ua S1.tv S2.tv S2.fits (by omega) (by omega)).mono fun e W' ⟨he, bel⟩ => ?_
  subst he
  exact ⟨_, rfl, _, _, _, [], _, [], hW', trodAll_mk1 (shut_bool Tryz.underlying4 _), (trodAll_cons_mk (shut_int Tryz.underlying2 w0) (trodAll_cons_mk (Below.trod laidOut (by kernel_rfl) (of_decide_eq_true (by kernel_rfl)) h1 bel lt1) (trodAll_cons_mk (Below.trod laidOut (by kernel_rfl) (of_decide_eq_true (by kernel_rfl)) h2 bel lt2) trodAll_mk0))), rfl, bel.frame _, fun h => by cases h⟩

set_option maxRecDepth 100000 in
theorem over : Rows.MoneyMemoryUptoSaid :=
  OpenClaim.holds_of_cond 3 Tryz.f3 rfl rfl rfl rfl rfl rfl rfl ⟨rfl, rfl, rfl, rfl, rfl⟩ rfl rfl rfl rfl rfl (by kernel_rfl) Tryz.func3 joined
    (of_decide_eq_true (by kernel_rfl)) (by unfold Func.isWrapper; first | (rw [if_pos (by decide +kernel)]; kernel_rfl) | (rw [if_neg (by decide +kernel)]; exact ⟨rfl, rfl⟩))
    (fun os started H enc _ F => by rw [OpenClaim.pre_eq_preRow]; exact lifted os started H enc F)
end Go.Proofs.YthkobjbemmllfaaGreatDoor.moneyMemoryUpto
namespace Go.Proofs.YthkobjbemmllfaaGreatDoor
open Go
/-- The tied card: the statement. -/
theorem moneyMemoryUpto_holds : Rows.MoneyMemoryUptoCardSaid :=
  Claim7.holds_tied_plain_at .later [] Rows.moneyMemoryUptoCard.laidKinds true Rows.moneyMemoryUptoCard.stood.harness Rows.moneyMemoryUptoCard.stood.looks
    moneyMemoryUpto.over (fun _ h => by cases h) (by kernel_rfl) (fun _ h => by cases h) moneyMemoryUpto_row_tie rfl ⟨rfl, rfl⟩ (by kernel_rfl) rfl
    (fun f fn hf hfn => by
      obtain rfl : f = 3 := Option.some.inj ((show Tryz.prog.funcNamed "remit/remitlaw04.MoneyMemory" = some 3 by kernel_rfl).symm.trans hf) |>.symm
      obtain rfl : fn = Tryz.f3 := (Option.some.inj (Tryz.func3.symm.trans hfn)).symm
      exact ⟨by kernel_rfl, fun j t ht => by
        rw [Tryz.params3] at ht
        have hm : t ∈ [2, 22, 23] := by simpa using Array.mem_of_getElem? ht
        have hall : ([2, 22, 23].all fun u => !Tryz.prog.wantsStandIn u) = true := by kernel_rfl
        exact (show Tryz.prog.wantsStandIn t = false by simpa using List.all_eq_true.1 hall t hm)⟩)
    (by kernel_rfl)
#print axioms moneyMemoryUpto_holds
end Go.Proofs.YthkobjbemmllfaaGreatDoor
