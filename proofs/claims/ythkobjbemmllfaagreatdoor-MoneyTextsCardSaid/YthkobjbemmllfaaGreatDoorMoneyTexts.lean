/- MoneyTexts: whatever the amounts, the number of decimals and the text: Text's answer is read back by Parse as the amount, two amounts share their text just where they are one, no text is longer than 28 bytes, and whatever Parse reads is written as it stood; a number of decimals out of range is told as such: the law answers true and what came in reads as before. The sentinel errors and tables that the row lists are tied to the program's text; the six variables that are left open are never read. -/
import Derived.Test.YthkobjbemmllfaaGreatDoorFixed
import Derived.Test.YthkobjbemmllfaaGreatDoorOwnT
import Derived.Test.YthkobjbemmllfaaGreatDoorJTexts
import Derived.Test.YthkobjbemmllfaaGreatDoorTie
import Derived.Test.YthkobjbemmllfaaGreatDoorCards
import Derived.ProofKit
import Derived.OpenShut
import Derived.LaidMore
import Derived.Stop.Joined
import Derived.Stop.LaidErr
import Derived.ShutString
import Derived.ChangeOld
import Derived.Below
import Derived.SizedLaws
import Derived.SevenTiedAt
import Derived.Lay
namespace Go.Proofs.YthkobjbemmllfaaGreatDoor.moneyTexts
open Go.ChangeShapes Go.WideShapes Go.ChangeAt Go.RowKit
open Go.ChangeMaps (open_string shut_string)

theorem door_met (os : Os) (args : Array Value) : laidMetH Tryz.prog Rows.moneyTextsRow.laid ((World.laidAll Tryz.prog os Rows.moneyTextsRow.laid).forCall (fun _ _ => 0) ⟨#[], args, []⟩).memory := by
  rw [MakeChecks.laidMetH_plain _ _ _ (by kernel_rfl)]
  exact laidMet_laidAll _ (by kernel_rfl) (by kernel_rfl)

theorem of_laid {W : World} (h : laidMetH Tryz.prog Rows.moneyTextsRow.laid W) : Env W (ptrAt W) ∧ Tab W ∧ SR W := by
  rw [MakeChecks.laidMetH_plain _ _ _ (by kernel_rfl)] at h
  exact ⟨env_of_laid errTypes h Gs (by kernel_rfl), Lib.tabIs_of_head gPow tPow Tryz.underlying129 Tryz.underlying74 (by kernel_rfl) (by kernel_rfl) h.tail.tail, sr_of (env_of_laid errTypes h [41] (by kernel_rfl))⟩

set_option maxRecDepth 100000 in
theorem lifted (os : Os) (started : os.Started) (H : Type) (enc : TypeId × Value → H) :
    ReturnsInHanded {} Tryz.checked os 3 .any (fun w args => (Rows.moneyTextsSpec.pre enc Tryz.prog Tryz.f3 [] false w args ∧ laidMetH Tryz.prog Rows.moneyTextsRow.laid w) ∧ sizedMet enc Tryz.prog Tryz.f3 (OpenSpec.ofChange Rows.moneyTextsSpec) false w args)
      (Rows.moneyTextsSpec.post enc Tryz.prog Tryz.f3 false true false false) := by
  refine returnsInHanded_of_change_and (C := Tryz.checked) (X := fun w _ => laidMetH Tryz.prog Rows.moneyTextsRow.laid w) (fun _ _ _ hh h => h.of_heap hh) own started (by kernel_rfl) Tryz.func3
    (ChangeSpec.witness_shaped (enc := enc) (C := Tryz.checked) (os := os) (X := fun w _ => laidMetH Tryz.prog Rows.moneyTextsRow.laid w) false (World.laidAll Tryz.prog os Rows.moneyTextsRow.laid) #[.int .i64 0, .int .i64 0, .int .i64 0, .string ⟨#[]⟩] 8 (World.laidAll_os _ _ _) (World.shaped_of_ZipB (by kernel_rfl) (by kernel_rfl)) (by kernel_rfl) (by kernel_rfl) (by kernel_rfl) (door_met os _)) ?_
  intro W base args ds gs before hval0 hW _ hsz hL _
  have hval : ∀ (j : Nat) t v, Tryz.f3.params[j]? = some t → args[j]? = some v → Value.okWide Tryz.prog W .any base t v := hval0
  have hW' := hW
  obtain ⟨p, q, hA0, hV, rfl, hfz, hnd⟩ := hW
  have hA : DataW.TrodAll enc Tryz.prog W 0 (fun _ => true) true Tryz.f3.params.toList args.toList ds p := hA0
  rw [Tryz.params3] at hA hval
  obtain ⟨v0, vs0, d0, ds0, p0, q0, hargs, rfl, rfl, h0, r0⟩ := trodAll_cons hA
  obtain ⟨v1, vs1, d1, ds1, p1, q1, rfl, rfl, rfl, h1, r1⟩ := trodAll_cons r0
  obtain ⟨v2, vs2, d2, ds2, p2, q2, rfl, rfl, rfl, h2, r2⟩ := trodAll_cons r1
  obtain ⟨v3, vs3, d3, ds3, p3, q3, rfl, rfl, rfl, h3, r3⟩ := trodAll_cons r2
  obtain ⟨rfl, rfl, rfl⟩ := trodAll_nil r3
  obtain rfl : args = #[v0, v1, v2, v3] := by cases args; simp_all
  obtain ⟨rfl, rfl⟩ := trodVars_none hV
  obtain ⟨a0, rfl, rfl, rfl, w0⟩ := open_int Tryz.underlying2 (hval 0 2 v0 rfl rfl) h0
  obtain ⟨a1, rfl, rfl, rfl, w1⟩ := open_int Tryz.underlying2 (hval 1 2 v1 rfl rfl) h1
  obtain ⟨a2, rfl, rfl, rfl, w2⟩ := open_int Tryz.underlying3 (hval 2 3 v2 rfl rfl) h2
  obtain ⟨s3, rfl, rfl, rfl, w3⟩ := open_string Tryz.underlying9 (hval 3 9 v3 rfl rfl) h3
  have z3 := sized_string hsz (j := 3) (t := 9) rfl rfl
  have e3 : s3.data.toList.length = s3.size := Array.length_toList
  have h47 := reachBytes_lt
  obtain ⟨hE, htab, hS⟩ := of_laid hL
  have b0 := in64 (bounds_i64 w0)
  have b1 := in64 (bounds_i64 w1)
  clear hA0 hval0
  refine (texts_walk (ptrAt W) a0 a1 a2 s3 W hE htab hS (fixed_any _ W hE htab) b0 b1 (by omega)).mono fun e W' ⟨he, bel⟩ => ?_
  subst he
  exact ⟨_, rfl, _, _, _, [], _, [], hW', trodAll_mk1 (shut_bool Tryz.underlying4 _), (trodAll_cons_mk (shut_int Tryz.underlying2 w0) (trodAll_cons_mk (shut_int Tryz.underlying2 w1) (trodAll_cons_mk (shut_int Tryz.underlying3 w2) (trodAll_cons_mk (shut_string Tryz.underlying9 w3) trodAll_mk0)))), rfl, bel.frame _, fun h => by cases h⟩

theorem over : Rows.MoneyTextsSaid :=
  OpenClaim.holds_of_wide 3 Tryz.f3 rfl rfl rfl rfl rfl rfl rfl ⟨rfl, rfl, rfl, rfl, rfl⟩ rfl rfl rfl rfl rfl (by kernel_rfl) Tryz.func3 joined
    (of_decide_eq_true (by kernel_rfl)) (by unfold Func.isWrapper; first | (rw [if_pos (by decide +kernel)]; kernel_rfl) | (rw [if_neg (by decide +kernel)]; exact ⟨rfl, rfl⟩))
    (fun os started H enc _ => lifted os started H enc)
end Go.Proofs.YthkobjbemmllfaaGreatDoor.moneyTexts
namespace Go.Proofs.YthkobjbemmllfaaGreatDoor
open Go
/-- The tied card: the statement. -/
theorem moneyTexts_holds : Rows.MoneyTextsCardSaid :=
  Claim7.holds_tied_plain_at .later [] Rows.moneyTextsCard.laidKinds true Rows.moneyTextsCard.stood.harness Rows.moneyTextsCard.stood.looks
    moneyTexts.over (fun _ h => by cases h) (by kernel_rfl) (fun _ h => by cases h) moneyTexts_row_tie rfl ⟨rfl, rfl⟩ (by kernel_rfl) rfl
    (fun f fn hf hfn => by
      obtain rfl : f = 3 := Option.some.inj ((show Tryz.prog.funcNamed "remit/remitlaw04.MoneyTexts" = some 3 by kernel_rfl).symm.trans hf) |>.symm
      obtain rfl : fn = Tryz.f3 := (Option.some.inj (Tryz.func3.symm.trans hfn)).symm
      exact ⟨by kernel_rfl, fun j t ht => by
        rw [Tryz.params3] at ht
        have hm : t ∈ [2, 2, 3, 9] := by simpa using Array.mem_of_getElem? ht
        have hall : ([2, 2, 3, 9].all fun u => !Tryz.prog.wantsStandIn u) = true := by kernel_rfl
        exact (show Tryz.prog.wantsStandIn t = false by simpa using List.all_eq_true.1 hall t hm)⟩)
    (by kernel_rfl)
#print axioms moneyTexts_holds
end Go.Proofs.YthkobjbemmllfaaGreatDoor
