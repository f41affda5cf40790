/- MoneyTexts: the facts of its row that the program alone decides, part by part. -/
import Derived.Test.YthkobjbemmllfaaGreatDoorRows
import Derived.JoinedOf
import Derived.KernelRfl
namespace Go.Proofs.YthkobjbemmllfaaGreatDoor.moneyTexts
theorem j0 : Rows.moneyTextsRow.wf (OpenSpec.ofChange Rows.moneyTextsSpec) = true := by kernel_rfl
theorem j1 : laidOutB Tryz.prog = true := by kernel_rfl
theorem j2 : mapsRowed Tryz.prog = true := by kernel_rfl
theorem j3 : Tryz.f3.params.all (Tryz.prog.readableRec ·) = true := by kernel_rfl
theorem j4 : namedTie Tryz.prog Rows.moneyTextsRow.named Rows.moneyTextsSpec.vars = true := by kernel_rfl
theorem j5 : (Rows.moneyTextsRow.stops == []) = true := by kernel_rfl
theorem j6 : (Tryz.prog.stops == []) = true := by kernel_rfl
theorem j7 : (Rows.moneyTextsRow.knobs == []) = true := by kernel_rfl
theorem j8 : (Tryz.prog.stopKnobs == []) = true := by kernel_rfl
theorem j9 : (Rows.moneyTextsRow.inPlace == Tryz.prog.inPlace 3) = true := by kernel_rfl
theorem j10 : (Rows.moneyTextsRow.unfollowed == Tryz.prog.unfollowed 3) = true := by kernel_rfl
theorem j11 : (Rows.moneyTextsRow.recurses == Tryz.prog.recurses 3) = true := by kernel_rfl
theorem j12 : (Rows.moneyTextsRow.named == Tryz.prog.varsNamed 3) = true := by kernel_rfl
theorem j13 : (Rows.moneyTextsRow.maps == (Tryz.f3.params.toList ++ Rows.moneyTextsSpec.plain.varTypes Tryz.prog).any (Tryz.prog.mapsRec ·)) = true := by kernel_rfl
theorem j14 : (Rows.moneyTextsRow.ifaces == (Tryz.f3.params.toList ++ Rows.moneyTextsSpec.plain.varTypes Tryz.prog).any (Tryz.prog.ifacesRec ·)) = true := by kernel_rfl
theorem j15 : (Rows.moneyTextsRow.mapsOut == Tryz.prog.mapsAmong Tryz.f3.resultTypes.toList) = true := by kernel_rfl
theorem j16 : (Rows.moneyTextsRow.loops == (Tryz.f3.params.toList ++ Rows.moneyTextsSpec.plain.varTypes Tryz.prog).any (Tryz.prog.loopsFrom ·)) = true := by kernel_rfl
theorem j17 : (Rows.moneyTextsRow.wideKeys == (Tryz.f3.params.toList ++ Rows.moneyTextsSpec.plain.varTypes Tryz.prog ++ Tryz.f3.resultTypes.toList).any (Tryz.prog.wideKeysFrom ·)) = true := by kernel_rfl
theorem j18 : Rows.moneyTextsSpec.vars.all (Tryz.prog.varReadable ·) = true := by kernel_rfl
theorem j19 : Tryz.f3.resultTypes.all (fun t => Tryz.prog.readableRec t && decide (t < Tryz.prog.types.size)) = true := by kernel_rfl
theorem j20 : (Rows.moneyTextsRow.ifacesOut == Tryz.f3.resultTypes.toList.any (Tryz.prog.ifacesRec ·)) = true := by kernel_rfl
theorem j21 : (Rows.moneyTextsRow.loopsOut == Tryz.f3.resultTypes.toList.any (Tryz.prog.loopsFrom ·)) = true := by kernel_rfl
theorem j22 : (Rows.moneyTextsRow.plainKeys == Tryz.prog.plainKeys) = true := by kernel_rfl
theorem j23 : Rows.moneyTextsRow.shortTexts.isNone = true := by kernel_rfl
theorem j24 : Tryz.prog.stopsHeard = true := by kernel_rfl
theorem j25 : Tryz.prog.mayEnter = true := by kernel_rfl
theorem j26 : (Rows.moneyTextsRow.lifted == Tryz.prog.liftsFinal) = true := by kernel_rfl
theorem j27 : (Tryz.prog.make == some Rows.moneyTextsRow.make) = true := by kernel_rfl
theorem j28 : (Rows.moneyTextsRow.kinds == (if Rows.moneyTextsRow.domain.isEmpty then [] else Tryz.f3.params.toList.map fun t => match Tryz.prog.underlying t with | some (.int k) => some k | _ => none)) = true := by kernel_rfl
theorem j29 : (Rows.moneyTextsRow.pinned == Rows.moneyTextsRow.pinnedBy) = true := by kernel_rfl
theorem j30 : (Rows.moneyTextsRow.veiled == (Tryz.f3.params.toList ++ Rows.moneyTextsSpec.plain.varTypes Tryz.prog ++ Tryz.f3.resultTypes.toList).any (Tryz.prog.veiledRec ·)) = true := by kernel_rfl
theorem j31 : Rows.moneyTextsRow.veiledFits Tryz.prog Tryz.f3.params.toList (Tryz.f3.params.toList ++ Rows.moneyTextsSpec.plain.varTypes Tryz.prog ++ Tryz.f3.resultTypes.toList) = true := by kernel_rfl
theorem and2 {a b : Bool} (ha : a = true) (hb : b = true) : (a && b) = true := by rw [ha, hb]; rfl
set_option maxRecDepth 100000 in
theorem joined : joinedFacts Tryz.prog 3 Tryz.f3 Rows.moneyTextsSpec Rows.moneyTextsRow = true := by
  unfold joinedFacts
  exact (and2 (and2 (and2 (and2 (and2 (and2 (and2 (and2 (and2 (and2 (and2 (and2 (and2 (and2 (and2 (and2 (and2 (and2 (and2 (and2 (and2 (and2 (and2 (and2 (and2 (and2 (and2 (and2 (and2 (and2 (and2 j0 j1) j2) j3) j4) j5) j6) j7) j8) j9) j10) j11) j12) j13) j14) j15) j16) j17) j18) j19) j20) j21) j22) j23) j24) j25) j26) j27) j28) j29) j30) j31)
end Go.Proofs.YthkobjbemmllfaaGreatDoor.moneyTexts
