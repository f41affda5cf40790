/- FeesBack, where what comes in is of bulk at most 1048576: whatever the two schedules and the text: a good schedule comes back from its text, what Parse takes has this text, and two schedules have one text just if they are alike: the law answers true and what came in reads as before. The sentinel errors and tables that the row lists are tied to the program's text; the six variables that are left open are never read. -/
import Derived.Test.YtikkocdbaekjmaaGreatDoorOwnB
import Derived.Test.YtikkocdbaekjmaaGreatDoorRowZ
import Derived.Test.YtikkocdbaekjmaaGreatDoorBackW
import Derived.Test.YtikkocdbaekjmaaGreatDoorJBack
import Derived.Test.YtikkocdbaekjmaaGreatDoorTie
import Derived.Test.YtikkocdbaekjmaaGreatDoorCards
import Derived.ProofKit
import Derived.OpenShut
import Derived.LaidMore
import Derived.Stop.Joined
import Derived.Stop.LaidErr
import Derived.ShutString
import Derived.ChangeOld
import Derived.Below
import Derived.SizedLaws
import Derived.SevenTiedAt
import Derived.Deep.DeepHandedRow
import Derived.Deep.DeepWitnessRowRef
import Derived.Lay
namespace Go.Proofs.YtikkocdbaekjmaaGreatDoor.feesBackUpto
open Go.ChangeShapes Go.WideShapes Go.ChangeAt Go.RowKit 
open Go.ChangeMaps (open_string shut_string)

theorem door_met (os : Os) (args : Array Value) : laidMetH Tryz.prog Rows.feesBackUptoRow.laid (((World.laidAll Tryz.prog os Rows.feesBackUptoRow.laid)).forCall (fun _ _ => 0) ⟨#[], args, []⟩).memory := by
  rw [MakeChecks.laidMetH_plain _ _ _ (by kernel_rfl)]
  exact laidMet_laidAll _ (by kernel_rfl) (by kernel_rfl)
theorem reads (os : Os) {H : Type} (enc : TypeId × Value → H) : ∃ places, DataW.whole enc Tryz.prog (((World.laidAll Tryz.prog os Rows.feesBackUptoRow.laid)).forCall (fun _ _ => 0) ⟨#[], #[.agg #[.slice none 0 0, .int .i64 0, .int .i64 0], .agg #[.slice none 0 0, .int .i64 0, .int .i64 0], .string ⟨#[]⟩], []⟩).memory Tryz.f5.params.toList Rows.feesBackSpec.vars false (#[.agg #[.slice none 0 0, .int .i64 0, .int .i64 0], .agg #[.slice none 0 0, .int .i64 0, .int .i64 0], .string ⟨#[]⟩] : Array Value).toList 8 = some ([.agg [.nil, .lit (.int .i64 0), .lit (.int .i64 0)], .agg [.nil, .lit (.int .i64 0), .lit (.int .i64 0)], .lit (.string [])], [], places) :=
  ⟨[], by kernel_rfl⟩

theorem of_laid {W : World} (h : laidMetH Tryz.prog Rows.feesBackUptoRow.laid W) : Env W (ptrAt W) ∧ Tab W := by
  rw [MakeChecks.laidMetH_plain _ _ _ (by kernel_rfl)] at h
  exact ⟨env_of_laid errTypes h Gs (by kernel_rfl), Lib.tabIs_of_head gPow tPow Tryz.underlying145 Tryz.underlying90 (by kernel_rfl) (by kernel_rfl) h.tail.tail⟩

set_option maxRecDepth 100000 in
theorem lifted (os : Os) (started : os.Started) (H : Type) (enc : TypeId × Value → H) (F : Stop.Interp) :
    ReturnsInHanded {} Tryz.checked os 5 .any ((Rows.OpenSpec.upto Rows.feesBackSpec).preRow enc Tryz.prog Tryz.f5 Rows.feesBackUptoRow.domain false Rows.feesBackUptoRow.laid) (((Rows.OpenSpec.upto Rows.feesBackSpec).at F).post enc Tryz.prog Tryz.f5 false true false false) := by
  obtain ⟨places, hx⟩ := reads os enc
  refine returnsInHanded_of_row (C := Tryz.checked) (s := Rows.OpenSpec.upto Rows.feesBackSpec) own started (by kernel_rfl) Tryz.func5
    (witness_row_shaped (enc := enc) (C := Tryz.checked) false (World.laidAll Tryz.prog os Rows.feesBackUptoRow.laid) #[.agg #[.slice none 0 0, .int .i64 0, .int .i64 0], .agg #[.slice none 0 0, .int .i64 0, .int .i64 0], .string ⟨#[]⟩] (World.laidAll_os _ _ _) (World.shaped_of_ZipB (by kernel_rfl) (by kernel_rfl)) (by kernel_rfl)
      (OpenSpec.preRow_of_cond 8 hx (by kernel_rfl) (fun k hk => by cases hk; kernel_rfl) (by kernel_rfl) (door_met os _))) ?_
  intro W base args ds gs before hval0 hW _ hcond hsz hL hSh _
  have hk := hcond _ rfl
  have hval : ∀ (j : Nat) t v, Tryz.f5.params[j]? = some t → args[j]? = some v → Value.okWide Tryz.prog W .any base t v := hval0
  have hW' := hW
  obtain ⟨p, q, hA0, hV, rfl, hfz, hnd⟩ := hW
  have hA : DataW.TrodAll enc Tryz.prog W 0 (fun _ => true) true Tryz.f5.params.toList args.toList ds p := hA0
  rw [Tryz.params5] at hA hval
  obtain ⟨v0, vs0, d0, ds0, p0, q0, hargs, rfl, rfl, h0, r0⟩ := trodAll_cons hA
  obtain ⟨v1, vs1, d1, ds1, p1, q1, rfl, rfl, rfl, h1, r1⟩ := trodAll_cons r0
  obtain ⟨v2, vs2, d2, ds2, p2, q2, rfl, rfl, rfl, h2, r2⟩ := trodAll_cons r1
  obtain ⟨rfl, rfl, rfl⟩ := trodAll_nil r2
  obtain rfl : args = #[v0, v1, v2] := by cases args; simp_all
  obtain ⟨rfl, rfl⟩ := trodVars_none hV
  have hkb := bulks.bound hk
  have lt0 : ∀ x ∈ p0, x.block < W.heap.size := by obtain ⟨m, hm⟩ := h0; exact DataW.trod_lt m _ _ _ hm
  obtain ⟨A0, n0, c0, t0, l0, m0, E0, T0⟩ := open_fees (hval 0 25 v0 rfl rfl) h0
  obtain rfl := E0
  have lt1 : ∀ x ∈ p1, x.block < W.heap.size := by obtain ⟨m, hm⟩ := h1; exact DataW.trod_lt m _ _ _ hm
  obtain ⟨A1, n1, c1, t1, l1, m1, E1, T1⟩ := open_fees (hval 1 25 v1 rfl rfl) h1
  obtain rfl := E1
  obtain ⟨s2, rfl, rfl, rfl, w2⟩ := open_string Tryz.underlying9 (hval 2 9 v2 rfl rfl) h2
  obtain ⟨hE, htab⟩ := of_laid hL
  obtain ⟨M, hM⟩ := cell_of_shapedOpen_int (g := 39) (zero := #[.int .i64 0]) (t := 3) hSh (of_decide_eq_true (by kernel_rfl)) (by kernel_rfl) rfl (by kernel_rfl) (by kernel_rfl) Tryz.underlying3
  simp only [List.append_nil, Rows.uptoBulkAll, Rows.uptoBulk, Nat.add_zero] at hkb
  have e2 : s2.data.toList.length = s2.size := Array.length_toList
  clear hA0 hval0
  refine (back_walk (ptrAt W) A0 n0 c0 t0 l0 m0 A1 n1 c1 t1 l1 m1 s2 M W (by omega) hM hE htab T0 T1).mono fun e W' ⟨he, bel⟩ => ?_
  subst he
  exact ⟨_, rfl, _, _, _, [], _, [], hW', trodAll_mk1 (shut_bool Tryz.underlying4 _), (trodAll_cons_mk (Below.trod laidOut (by kernel_rfl) (of_decide_eq_true (by kernel_rfl)) h0 bel lt0) (trodAll_cons_mk (Below.trod laidOut (by kernel_rfl) (of_decide_eq_true (by kernel_rfl)) h1 bel lt1) (trodAll_cons_mk (shut_string Tryz.underlying9 w2) trodAll_mk0))), rfl, bel.frame _, fun h => by cases h⟩

set_option maxRecDepth 100000 in
theorem over : Rows.FeesBackUptoSaid :=
  OpenClaim.holds_of_cond 5 Tryz.f5 rfl rfl rfl rfl rfl rfl rfl ⟨rfl, rfl, rfl, rfl, rfl⟩ rfl rfl rfl rfl rfl (by kernel_rfl) Tryz.func5 joined
    (of_decide_eq_true (by kernel_rfl)) (by unfold Func.isWrapper; first | (rw [if_pos (by decide +kernel)]; kernel_rfl) | (rw [if_neg (by decide +kernel)]; exact ⟨rfl, rfl⟩))
    (fun os started H enc _ F => by rw [OpenClaim.pre_eq_preRow]; exact lifted os started H enc F)
end Go.Proofs.YtikkocdbaekjmaaGreatDoor.feesBackUpto
namespace Go.Proofs.YtikkocdbaekjmaaGreatDoor
open Go
/-- The tied card: the statement. -/
theorem feesBackUpto_holds : Rows.FeesBackUptoCardSaid :=
  Claim7.holds_tied_plain_at .later [] Rows.feesBackUptoCard.laidKinds true Rows.feesBackUptoCard.stood.harness Rows.feesBackUptoCard.stood.looks
    feesBackUpto.over (fun _ h => by cases h) (by kernel_rfl) (fun _ h => by cases h) feesBackUpto_row_tie rfl ⟨rfl, rfl⟩ (by kernel_rfl) rfl
    (fun f fn hf hfn => by
      obtain rfl : f = 5 := Option.some.inj ((show Tryz.prog.funcNamed "remit/remitlaw18.FeesBack" = some 5 by kernel_rfl).symm.trans hf) |>.symm
      obtain rfl : fn = Tryz.f5 := (Option.some.inj (Tryz.func5.symm.trans hfn)).symm
      exact ⟨by kernel_rfl, fun j t ht => by
        rw [Tryz.params5] at ht
        have hm : t ∈ [25, 25, 9] := by simpa using Array.mem_of_getElem? ht
        have hall : ([25, 25, 9].all fun u => !Tryz.prog.wantsStandIn u) = true := by kernel_rfl
        exact (show Tryz.prog.wantsStandIn t = false by simpa using List.all_eq_true.1 hall t hm)⟩)
    (by kernel_rfl)
#print axioms feesBackUpto_holds
end Go.Proofs.YtikkocdbaekjmaaGreatDoor
