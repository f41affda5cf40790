/- FeesFees: the facts of its row that the program alone decides, part by part. -/
import Derived.Test.YtikkocdbaekjmaaGreatDoorRows
import Derived.JoinedOf
import Derived.KernelRfl
namespace Go.Proofs.YtikkocdbaekjmaaGreatDoor.feesFees
theorem j0 : Rows.feesFeesRow.wf (OpenSpec.ofChange Rows.feesFeesSpec) = true := by kernel_rfl
theorem j1 : laidOutB Tryz.prog = true := by kernel_rfl
theorem j2 : mapsRowed Tryz.prog = true := by kernel_rfl
theorem j3 : Tryz.f5.params.all (Tryz.prog.readableRec ·) = true := by kernel_rfl
theorem j4 : namedTie Tryz.prog Rows.feesFeesRow.named Rows.feesFeesSpec.vars = true := by kernel_rfl
theorem j5 : (Rows.feesFeesRow.stops == []) = true := by kernel_rfl
theorem j6 : (Tryz.prog.stops == []) = true := by kernel_rfl
theorem j7 : (Rows.feesFeesRow.knobs == []) = true := by kernel_rfl
theorem j8 : (Tryz.prog.stopKnobs == []) = true := by kernel_rfl
theorem j9 : (Rows.feesFeesRow.inPlace == Tryz.prog.inPlace 5) = true := by kernel_rfl
theorem j10 : (Rows.feesFeesRow.unfollowed == Tryz.prog.unfollowed 5) = true := by kernel_rfl
theorem j11 : (Rows.feesFeesRow.recurses == Tryz.prog.recurses 5) = true := by kernel_rfl
theorem j12 : (Rows.feesFeesRow.named == Tryz.prog.varsNamed 5) = true := by kernel_rfl
theorem j13 : (Rows.feesFeesRow.maps == (Tryz.f5.params.toList ++ Rows.feesFeesSpec.plain.varTypes Tryz.prog).any (Tryz.prog.mapsRec ·)) = true := by kernel_rfl
theorem j14 : (Rows.feesFeesRow.ifaces == (Tryz.f5.params.toList ++ Rows.feesFeesSpec.plain.varTypes Tryz.prog).any (Tryz.prog.ifacesRec ·)) = true := by kernel_rfl
theorem j15 : (Rows.feesFeesRow.mapsOut == Tryz.prog.mapsAmong Tryz.f5.resultTypes.toList) = true := by kernel_rfl
theorem j16 : (Rows.feesFeesRow.loops == (Tryz.f5.params.toList ++ Rows.feesFeesSpec.plain.varTypes Tryz.prog).any (Tryz.prog.loopsFrom ·)) = true := by kernel_rfl
theorem j17 : (Rows.feesFeesRow.wideKeys == (Tryz.f5.params.toList ++ Rows.feesFeesSpec.plain.varTypes Tryz.prog ++ Tryz.f5.resultTypes.toList).any (Tryz.prog.wideKeysFrom ·)) = true := by kernel_rfl
theorem j18 : Rows.feesFeesSpec.vars.all (Tryz.prog.varReadable ·) = true := by kernel_rfl
theorem j19 : Tryz.f5.resultTypes.all (fun t => Tryz.prog.readableRec t && decide (t < Tryz.prog.types.size)) = true := by kernel_rfl
theorem j20 : (Rows.feesFeesRow.ifacesOut == Tryz.f5.resultTypes.toList.any (Tryz.prog.ifacesRec ·)) = true := by kernel_rfl
theorem j21 : (Rows.feesFeesRow.loopsOut == Tryz.f5.resultTypes.toList.any (Tryz.prog.loopsFrom ·)) = true := by kernel_rfl
theorem j22 : (Rows.feesFeesRow.plainKeys == Tryz.prog.plainKeys) = true := by kernel_rfl
theorem j23 : Rows.feesFeesRow.shortTexts.isNone = true := by kernel_rfl
theorem j24 : Tryz.prog.stopsHeard = true := by kernel_rfl
theorem j25 : Tryz.prog.mayEnter = true := by kernel_rfl
theorem j26 : (Rows.feesFeesRow.lifted == Tryz.prog.liftsFinal) = true := by kernel_rfl
theorem j27 : (Tryz.prog.make == some Rows.feesFeesRow.make) = true := by kernel_rfl
theorem j28 : (Rows.feesFeesRow.kinds == (if Rows.feesFeesRow.domain.isEmpty then [] else Tryz.f5.params.toList.map fun t => match Tryz.prog.underlying t with | some (.int k) => some k | _ => none)) = true := by kernel_rfl
theorem j29 : (Rows.feesFeesRow.pinned == Rows.feesFeesRow.pinnedBy) = true := by kernel_rfl
theorem j30 : (Rows.feesFeesRow.veiled == (Tryz.f5.params.toList ++ Rows.feesFeesSpec.plain.varTypes Tryz.prog ++ Tryz.f5.resultTypes.toList).any (Tryz.prog.veiledRec ·)) = true := by kernel_rfl
theorem j31 : Rows.feesFeesRow.veiledFits Tryz.prog Tryz.f5.params.toList (Tryz.f5.params.toList ++ Rows.feesFeesSpec.plain.varTypes Tryz.prog ++ Tryz.f5.resultTypes.toList) = true := by kernel_rfl
theorem and2 {a b : Bool} (ha : a = true) (hb : b = true) : (a && b) = true := by rw [ha, hb]; rfl
set_option maxRecDepth 100000 in
theorem joined : joinedFacts Tryz.prog 5 Tryz.f5 Rows.feesFeesSpec Rows.feesFeesRow = true := by
  unfold joinedFacts
  exact (and2 (and2 (and2 (and2 (and2 (and2 (and2 (and2 (and2 (and2 (and2 (and2 (and2 (and2 (and2 (and2 (and2 (and2 (and2 (and2 (and2 (and2 (and2 (and2 (and2 (and2 (and2 (and2 (and2 (and2 (and2 j0 j1) j2) j3) j4) j5) j6) j7) j8) j9) j10) j11) j12) j13) j14) j15) j16) j17) j18) j19) j20) j21) j22) j23) j24) j25) j26) j27) j28) j29) j30) j31)
end Go.Proofs.YtikkocdbaekjmaaGreatDoor.feesFees
