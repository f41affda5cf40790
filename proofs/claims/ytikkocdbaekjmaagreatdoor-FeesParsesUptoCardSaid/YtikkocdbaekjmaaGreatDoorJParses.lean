/- FeesParses: the facts of its row that the program alone decides, part by part. -/
import Derived.Test.YtikkocdbaekjmaaGreatDoorRows
import Derived.JoinedOf
import Derived.KernelRfl
namespace Go.Proofs.YtikkocdbaekjmaaGreatDoor.feesParsesUpto
theorem j0 : Rows.feesParsesUptoRow.wf (OpenSpec.ofChange Rows.feesParsesSpec) = true := by kernel_rfl
theorem j1 : laidOutB Tryz.prog = true := by kernel_rfl
theorem j2 : mapsRowed Tryz.prog = true := by kernel_rfl
theorem j3 : Tryz.f3.params.all (Tryz.prog.readableRec ·) = true := by kernel_rfl
theorem j4 : namedTie Tryz.prog Rows.feesParsesUptoRow.named Rows.feesParsesSpec.vars = true := by kernel_rfl
theorem j5 : (Rows.feesParsesUptoRow.stops == []) = true := by kernel_rfl
theorem j6 : (Tryz.prog.stops == []) = true := by kernel_rfl
theorem j7 : (Rows.feesParsesUptoRow.knobs == []) = true := by kernel_rfl
theorem j8 : (Tryz.prog.stopKnobs == []) = true := by kernel_rfl
theorem j9 : (Rows.feesParsesUptoRow.inPlace == Tryz.prog.inPlace 3) = true := by kernel_rfl
theorem j10 : (Rows.feesParsesUptoRow.unfollowed == Tryz.prog.unfollowed 3) = true := by kernel_rfl
theorem j11 : (Rows.feesParsesUptoRow.recurses == Tryz.prog.recurses 3) = true := by kernel_rfl
theorem j12 : (Rows.feesParsesUptoRow.named == Tryz.prog.varsNamed 3) = true := by kernel_rfl
theorem j13 : (Rows.feesParsesUptoRow.maps == (Tryz.f3.params.toList ++ Rows.feesParsesSpec.plain.varTypes Tryz.prog).any (Tryz.prog.mapsRec ·)) = true := by kernel_rfl
theorem j14 : (Rows.feesParsesUptoRow.ifaces == (Tryz.f3.params.toList ++ Rows.feesParsesSpec.plain.varTypes Tryz.prog).any (Tryz.prog.ifacesRec ·)) = true := by kernel_rfl
theorem j15 : (Rows.feesParsesUptoRow.mapsOut == Tryz.prog.mapsAmong Tryz.f3.resultTypes.toList) = true := by kernel_rfl
theorem j16 : (Rows.feesParsesUptoRow.loops == (Tryz.f3.params.toList ++ Rows.feesParsesSpec.plain.varTypes Tryz.prog).any (Tryz.prog.loopsFrom ·)) = true := by kernel_rfl
theorem j17 : (Rows.feesParsesUptoRow.wideKeys == (Tryz.f3.params.toList ++ Rows.feesParsesSpec.plain.varTypes Tryz.prog ++ Tryz.f3.resultTypes.toList).any (Tryz.prog.wideKeysFrom ·)) = true := by kernel_rfl
theorem j18 : Rows.feesParsesSpec.vars.all (Tryz.prog.varReadable ·) = true := by kernel_rfl
theorem j19 : Tryz.f3.resultTypes.all (fun t => Tryz.prog.readableRec t && decide (t < Tryz.prog.types.size)) = true := by kernel_rfl
theorem j20 : (Rows.feesParsesUptoRow.ifacesOut == Tryz.f3.resultTypes.toList.any (Tryz.prog.ifacesRec ·)) = true := by kernel_rfl
theorem j21 : (Rows.feesParsesUptoRow.loopsOut == Tryz.f3.resultTypes.toList.any (Tryz.prog.loopsFrom ·)) = true := by kernel_rfl
theorem j22 : (Rows.feesParsesUptoRow.plainKeys == Tryz.prog.plainKeys) = true := by kernel_rfl
theorem j23 : Rows.feesParsesUptoRow.shortTexts.isNone = true := by kernel_rfl
theorem j24 : Tryz.prog.stopsHeard = true := by kernel_rfl
theorem j25 : Tryz.prog.mayEnter = true := by kernel_rfl
theorem j26 : (Rows.feesParsesUptoRow.lifted == Tryz.prog.liftsFinal) = true := by kernel_rfl
theorem j27 : (Tryz.prog.make == some Rows.feesParsesUptoRow.make) = true := by kernel_rfl
theorem j28 : (Rows.feesParsesUptoRow.kinds == (if Rows.feesParsesUptoRow.domain.isEmpty then [] else Tryz.f3.params.toList.map fun t => match Tryz.prog.underlying t with | some (.int k) => some k | _ => none)) = true := by kernel_rfl
theorem j29 : (Rows.feesParsesUptoRow.pinned == Rows.feesParsesUptoRow.pinnedBy) = true := by kernel_rfl
theorem j30 : (Rows.feesParsesUptoRow.veiled == (Tryz.f3.params.toList ++ Rows.feesParsesSpec.plain.varTypes Tryz.prog ++ Tryz.f3.resultTypes.toList).any (Tryz.prog.veiledRec ·)) = true := by kernel_rfl
theorem j31 : Rows.feesParsesUptoRow.veiledFits Tryz.prog Tryz.f3.params.toList (Tryz.f3.params.toList ++ Rows.feesParsesSpec.plain.varTypes Tryz.prog ++ Tryz.f3.resultTypes.toList) = true := by kernel_rfl
theorem and2 {a b : Bool} (ha : a = true) (hb : b = true) : (a && b) = true := by rw [ha, hb]; rfl
set_option maxRecDepth 100000 in
theorem joined : joinedFacts Tryz.prog 3 Tryz.f3 Rows.feesParsesSpec Rows.feesParsesUptoRow = true := by
  unfold joinedFacts
  exact (and2 (and2 (and2 (and2 (and2 (and2 (and2 (and2 (and2 (and2 (and2 (and2 (and2 (and2 (and2 (and2 (and2 (and2 (and2 (and2 (and2 (and2 (and2 (and2 (and2 (and2 (and2 (and2 (and2 (and2 (and2 j0 j1) j2) j3) j4) j5) j6) j7) j8) j9) j10) j11) j12) j13) j14) j15) j16) j17) j18) j19) j20) j21) j22) j23) j24) j25) j26) j27) j28) j29) j30) j31)
end Go.Proofs.YtikkocdbaekjmaaGreatDoor.feesParsesUpto
