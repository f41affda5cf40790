/- FeesParses, where the text is of bulk at most 1048576: whatever the text: Parse answers, twice, what the document's Parse answers, and its tiers are new: writing over the one and appending to it leaves the other: the law answers true and what came in reads as before. The sentinel errors and tables that the row lists are tied to the program's text; the six variables that are left open are never read. -/
import Derived.Test.YtikkocdbaekjmaaGreatDoorOwnB
import Derived.Test.YtikkocdbaekjmaaGreatDoorParsesW
import Derived.Test.YtikkocdbaekjmaaGreatDoorJParses
import Derived.Test.YtikkocdbaekjmaaGreatDoorTie
import Derived.Test.YtikkocdbaekjmaaGreatDoorCards
import Derived.ProofKit
import Derived.OpenShut
import Derived.LaidMore
import Derived.Stop.Joined
import Derived.Stop.LaidErr
import Derived.ShutString
import Derived.ChangeOld
import Derived.Below
import Derived.SizedLaws
import Derived.SevenTiedAt
import Derived.Deep.DeepHandedRow
import Derived.Deep.DeepWitnessRowRef
import Derived.Lay
namespace Go.Proofs.YtikkocdbaekjmaaGreatDoor.feesParsesUpto
open Go.ChangeShapes Go.WideShapes Go.ChangeAt Go.RowKit 
open Go.ChangeMaps (open_string shut_string)

theorem door_met (os : Os) (args : Array Value) : laidMetH Tryz.prog Rows.feesParsesUptoRow.laid (((World.laidAll Tryz.prog os Rows.feesParsesUptoRow.laid)).forCall (fun _ _ => 0) ⟨#[], args, []⟩).memory := by
  rw [MakeChecks.laidMetH_plain _ _ _ (by kernel_rfl)]
  exact laidMet_laidAll _ (by kernel_rfl) (by kernel_rfl)
theorem reads (os : Os) {H : Type} (enc : TypeId × Value → H) : ∃ places, DataW.whole enc Tryz.prog (((World.laidAll Tryz.prog os Rows.feesParsesUptoRow.laid)).forCall (fun _ _ => 0) ⟨#[], #[.string ⟨#[]⟩], []⟩).memory Tryz.f3.params.toList Rows.feesParsesSpec.vars false (#[.string ⟨#[]⟩] : Array Value).toList 8 = some ([.lit (.string [])], [], places) :=
  ⟨[], by kernel_rfl⟩

theorem of_laid {W : World} (h : laidMetH Tryz.prog Rows.feesParsesUptoRow.laid W) : Env W (ptrAt W) ∧ Tab W := by
  rw [MakeChecks.laidMetH_plain _ _ _ (by kernel_rfl)] at h
  exact ⟨env_of_laid errTypes h Gs (by kernel_rfl), Lib.tabIs_of_head gPow tPow Tryz.underlying146 Tryz.underlying38 (by kernel_rfl) (by kernel_rfl) h.tail.tail⟩

set_option maxRecDepth 100000 in
theorem lifted (os : Os) (started : os.Started) (H : Type) (enc : TypeId × Value → H) (F : Stop.Interp) :
    ReturnsInHanded {} Tryz.checked os 3 .any ((Rows.OpenSpec.upto Rows.feesParsesSpec).preRow enc Tryz.prog Tryz.f3 Rows.feesParsesUptoRow.domain false Rows.feesParsesUptoRow.laid) (((Rows.OpenSpec.upto Rows.feesParsesSpec).at F).post enc Tryz.prog Tryz.f3 false true false false) := by
  obtain ⟨places, hx⟩ := reads os enc
  refine returnsInHanded_of_row (C := Tryz.checked) (s := Rows.OpenSpec.upto Rows.feesParsesSpec) own started (by kernel_rfl) Tryz.func3
    (witness_row_shaped (enc := enc) (C := Tryz.checked) false (World.laidAll Tryz.prog os Rows.feesParsesUptoRow.laid) #[.string ⟨#[]⟩] (World.laidAll_os _ _ _) (World.shaped_of_ZipB (by kernel_rfl) (by kernel_rfl)) (by kernel_rfl)
      (OpenSpec.preRow_of_cond 8 hx (by kernel_rfl) (fun k hk => by cases hk; kernel_rfl) (by kernel_rfl) (door_met os _))) ?_
  intro W base args ds gs before hval0 hW _ hcond hsz hL hSh _
  have hk := hcond _ rfl
  have hval : ∀ (j : Nat) t v, Tryz.f3.params[j]? = some t → args[j]? = some v → Value.okWide Tryz.prog W .any base t v := hval0
  have hW' := hW
  obtain ⟨p, q, hA0, hV, rfl, hfz, hnd⟩ := hW
  have hA : DataW.TrodAll enc Tryz.prog W 0 (fun _ => true) true Tryz.f3.params.toList args.toList ds p := hA0
  rw [Tryz.params3] at hA hval
  obtain ⟨v0, vs0, d0, ds0, p0, q0, hargs, rfl, rfl, h0, r0⟩ := trodAll_cons hA
  obtain ⟨rfl, rfl, rfl⟩ := trodAll_nil r0
  obtain rfl : args = #[v0] := by cases args; simp_all
  obtain ⟨rfl, rfl⟩ := trodVars_none hV
  have hkb := bulks.bound hk
  obtain ⟨s0, rfl, rfl, rfl, w0⟩ := open_string Tryz.underlying9 (hval 0 9 v0 rfl rfl) h0
  obtain ⟨hE, htab⟩ := of_laid hL
  obtain ⟨M, hM⟩ := cell_of_shapedOpen_int (g := 39) (zero := #[.int .i64 0]) (t := 3) hSh (of_decide_eq_true (by kernel_rfl)) (by kernel_rfl) rfl (by kernel_rfl) (by kernel_rfl) Tryz.underlying3
  simp only [List.append_nil, Rows.uptoBulkAll, Rows.uptoBulk, Nat.add_zero] at hkb
  have e0 : s0.data.toList.length = s0.size := Array.length_toList
  clear hA0 hval0
  refine (parses_walk (ptrAt W) s0 M W (by omega) hM hE htab).mono fun e W' ⟨he, bel⟩ => ?_
  subst he
  exact ⟨_, rfl, _, _, _, [], _, [], hW', trodAll_mk1 (shut_bool Tryz.underlying4 _), (trodAll_cons_mk (shut_string Tryz.underlying9 w0) trodAll_mk0), rfl, bel.frame _, fun h => by cases h⟩

set_option maxRecDepth 100000 in
theorem over : Rows.FeesParsesUptoSaid :=
  OpenClaim.holds_of_cond 3 Tryz.f3 rfl rfl rfl rfl rfl rfl rfl ⟨rfl, rfl, rfl, rfl, rfl⟩ rfl rfl rfl rfl rfl (by kernel_rfl) Tryz.func3 joined
    (of_decide_eq_true (by kernel_rfl)) (by unfold Func.isWrapper; first | (rw [if_pos (by decide +kernel)]; kernel_rfl) | (rw [if_neg (by decide +kernel)]; exact ⟨rfl, rfl⟩))
    (fun os started H enc _ F => by rw [OpenClaim.pre_eq_preRow]; exact lifted os started H enc F)
end Go.Proofs.YtikkocdbaekjmaaGreatDoor.feesParsesUpto
namespace Go.Proofs.YtikkocdbaekjmaaGreatDoor
open Go
/-- The tied card: the statement. -/
theorem feesParsesUpto_holds : Rows.FeesParsesUptoCardSaid :=
  Claim7.holds_tied_plain_at .later [] Rows.feesParsesUptoCard.laidKinds true Rows.feesParsesUptoCard.stood.harness Rows.feesParsesUptoCard.stood.looks
    feesParsesUpto.over (fun _ h => by cases h) (by kernel_rfl) (fun _ h => by cases h) feesParsesUpto_row_tie rfl ⟨rfl, rfl⟩ (by kernel_rfl) rfl
    (fun f fn hf hfn => by
      obtain rfl : f = 3 := Option.some.inj ((show Tryz.prog.funcNamed "remit/remitlaw18.FeesParses" = some 3 by kernel_rfl).symm.trans hf) |>.symm
      obtain rfl : fn = Tryz.f3 := (Option.some.inj (Tryz.func3.symm.trans hfn)).symm
      exact ⟨by kernel_rfl, fun j t ht => by
        rw [Tryz.params3] at ht
        have hm : t ∈ [9] := by simpa using Array.mem_of_getElem? ht
        have hall : ([9].all fun u => !Tryz.prog.wantsStandIn u) = true := by kernel_rfl
        exact (show Tryz.prog.wantsStandIn t = false by simpa using List.all_eq_true.1 hall t hm)⟩)
    (by kernel_rfl)
#print axioms feesParsesUpto_holds
end Go.Proofs.YtikkocdbaekjmaaGreatDoor
