/- FeesFees: whatever the schedule and the amounts: Check, Text and Fee answer what the document's answer answers, and the schedule that is handed in stays as it is, the spare place behind it too: the law answers true and what came in reads as before. The sentinel errors and tables that the row lists are tied to the program's text; the six variables that are left open are never read. -/
import Derived.Test.YtikkocdbaekjmaaGreatDoorOwnZ
import Derived.Test.YtikkocdbaekjmaaGreatDoorShaped
import Derived.Test.YtikkocdbaekjmaaGreatDoorFeesW
import Derived.Test.YtikkocdbaekjmaaGreatDoorJFees
import Derived.Test.YtikkocdbaekjmaaGreatDoorTie
import Derived.Test.YtikkocdbaekjmaaGreatDoorCards
import Derived.ProofKit
import Derived.OpenShut
import Derived.LaidMore
import Derived.Stop.Joined
import Derived.Stop.LaidErr
import Derived.ShutString
import Derived.ChangeOld
import Derived.Below
import Derived.SizedLaws
import Derived.SevenTiedAt
import Derived.Lay
namespace Go.Proofs.YtikkocdbaekjmaaGreatDoor.feesFees
open Go.ChangeShapes Go.WideShapes Go.ChangeAt Go.RowKit
open Go.ChangeMaps (open_string shut_string)

theorem door_met (os : Os) (args : Array Value) : laidMetH Tryz.prog Rows.feesFeesRow.laid ((World.laidAll Tryz.prog os Rows.feesFeesRow.laid).forCall (fun _ _ => 0) ⟨#[], args, []⟩).memory := by
  rw [MakeChecks.laidMetH_plain _ _ _ (by kernel_rfl)]
  exact laidMet_laidAll _ (by kernel_rfl) (by kernel_rfl)

theorem of_laid {W : World} (h : laidMetH Tryz.prog Rows.feesFeesRow.laid W) : Env W (ptrAt W) ∧ Tab W := by
  rw [MakeChecks.laidMetH_plain _ _ _ (by kernel_rfl)] at h
  exact ⟨env_of_laid errTypes h Gs (by kernel_rfl), Lib.tabIs_of_head gPow tPow Tryz.underlying146 Tryz.underlying38 (by kernel_rfl) (by kernel_rfl) h.tail.tail⟩

set_option maxRecDepth 100000 in
theorem lifted (os : Os) (started : os.Started) (H : Type) (enc : TypeId × Value → H) :
    ReturnsInHanded {} Tryz.checked os 5 .any (fun w args => (Rows.feesFeesSpec.pre enc Tryz.prog Tryz.f5 [] false w args ∧ laidMetH Tryz.prog Rows.feesFeesRow.laid w) ∧ sizedMet enc Tryz.prog Tryz.f5 (OpenSpec.ofChange Rows.feesFeesSpec) false w args)
      (Rows.feesFeesSpec.post enc Tryz.prog Tryz.f5 false true false false) := by
  refine handed_shaped (C := Tryz.checked) (X := fun w _ => laidMetH Tryz.prog Rows.feesFeesRow.laid w) (fun _ _ _ hh h => h.of_heap hh) own started (by kernel_rfl) Tryz.func5
    (ChangeSpec.witness_shaped (enc := enc) (C := Tryz.checked) (os := os) (X := fun w _ => laidMetH Tryz.prog Rows.feesFeesRow.laid w) false (World.laidAll Tryz.prog os Rows.feesFeesRow.laid) #[.agg #[.slice none 0 0, .int .i64 0, .int .i64 0], .slice none 0 0] 8 (World.laidAll_os _ _ _) (World.shaped_of_ZipB (by kernel_rfl) (by kernel_rfl)) (by kernel_rfl) (by kernel_rfl) (by kernel_rfl) (door_met os _)) ?_
  intro W base args ds gs before hval0 hW hsz hL hSh
  have hval : ∀ (j : Nat) t v, Tryz.f5.params[j]? = some t → args[j]? = some v → Value.okWide Tryz.prog W .any base t v := hval0
  have hW' := hW
  obtain ⟨p, q, hA0, hV, rfl, hfz, hnd⟩ := hW
  have hA : DataW.TrodAll enc Tryz.prog W 0 (fun _ => true) true Tryz.f5.params.toList args.toList ds p := hA0
  rw [Tryz.params5] at hA hval
  obtain ⟨v0, vs0, d0, ds0, p0, q0, hargs, rfl, rfl, h0, r0⟩ := trodAll_cons hA
  obtain ⟨v1, vs1, d1, ds1, p1, q1, rfl, rfl, rfl, h1, r1⟩ := trodAll_cons r0
  obtain ⟨rfl, rfl, rfl⟩ := trodAll_nil r1
  obtain rfl : args = #[v0, v1] := by cases args; simp_all
  obtain ⟨rfl, rfl⟩ := trodVars_none hV
  have lt0 : ∀ x ∈ p0, x.block < W.heap.size := by obtain ⟨m, hm⟩ := h0; exact DataW.trod_lt m _ _ _ hm
  obtain ⟨A0, n0, c0, t0, l0, m0, E0, T0, Z0⟩ := open_fees_sized (hval 0 25 v0 rfl rfl) h0 (weights_of hsz (j := 0) rfl rfl)
  obtain rfl := E0
  have lt1 : ∀ x ∈ p1, x.block < W.heap.size := by obtain ⟨m, hm⟩ := h1; exact DataW.trod_lt m _ _ _ hm
  obtain ⟨A1, n1, c1, f1, S1⟩ := open_i64s (hval 1 43 v1 rfl rfl) h1 (fun L R hd => sized_slice hsz (j := 1) (t := 43) (e := 2) rfl (congrArg some hd) Tryz.underlying43)
  obtain rfl := S1.eq
  have h47 := reachBytes_lt
  obtain ⟨hE, htab⟩ := of_laid hL
  obtain ⟨M, hM⟩ := cell_of_shapedOpen_int (g := 39) (zero := #[.int .i64 0]) (t := 3) hSh (of_decide_eq_true (by kernel_rfl)) (by kernel_rfl) rfl (by kernel_rfl) (by kernel_rfl) Tryz.underlying3
  clear hA0 hval0
  refine (fees_walk (ptrAt W) A0 n0 c0 t0 l0 m0 A1 n1 c1 f1 M W hM hE htab T0 S1.ints (by omega) (by have := S1.small; omega)).mono fun e W' ⟨he, bel⟩ => ?_
  subst he
  exact ⟨_, rfl, _, _, _, [], _, [], hW', trodAll_mk1 (shut_bool Tryz.underlying4 _), (trodAll_cons_mk (Below.trod laidOut (by kernel_rfl) (of_decide_eq_true (by kernel_rfl)) h0 bel lt0) (trodAll_cons_mk (Below.trod laidOut (by kernel_rfl) (of_decide_eq_true (by kernel_rfl)) h1 bel lt1) trodAll_mk0)), rfl, bel.frame _, fun h => by cases h⟩

theorem over : Rows.FeesFeesSaid :=
  OpenClaim.holds_of_wide 5 Tryz.f5 rfl rfl rfl rfl rfl rfl rfl ⟨rfl, rfl, rfl, rfl, rfl⟩ rfl rfl rfl rfl rfl (by kernel_rfl) Tryz.func5 joined
    (of_decide_eq_true (by kernel_rfl)) (by unfold Func.isWrapper; first | (rw [if_pos (by decide +kernel)]; kernel_rfl) | (rw [if_neg (by decide +kernel)]; exact ⟨rfl, rfl⟩))
    (fun os started H enc _ => lifted os started H enc)
end Go.Proofs.YtikkocdbaekjmaaGreatDoor.feesFees
namespace Go.Proofs.YtikkocdbaekjmaaGreatDoor
open Go
/-- The tied card: the statement. -/
theorem feesFees_holds : Rows.FeesFeesCardSaid :=
  Claim7.holds_tied_plain_at .later [] Rows.feesFeesCard.laidKinds true Rows.feesFeesCard.stood.harness Rows.feesFeesCard.stood.looks
    feesFees.over (fun _ h => by cases h) (by kernel_rfl) (fun _ h => by cases h) feesFees_row_tie rfl ⟨rfl, rfl⟩ (by kernel_rfl) rfl
    (fun f fn hf hfn => by
      obtain rfl : f = 5 := Option.some.inj ((show Tryz.prog.funcNamed "remit/remitlaw18.FeesFees" = some 5 by kernel_rfl).symm.trans hf) |>.symm
      obtain rfl : fn = Tryz.f5 := (Option.some.inj (Tryz.func5.symm.trans hfn)).symm
      exact ⟨by kernel_rfl, fun j t ht => by
        rw [Tryz.params5] at ht
        have hm : t ∈ [25, 43] := by simpa using Array.mem_of_getElem? ht
        have hall : ([25, 43].all fun u => !Tryz.prog.wantsStandIn u) = true := by kernel_rfl
        exact (show Tryz.prog.wantsStandIn t = false by simpa using List.all_eq_true.1 hall t hm)⟩)
    (by kernel_rfl)
#print axioms feesFees_holds
end Go.Proofs.YtikkocdbaekjmaaGreatDoor
