/- Facts of the program that the law's frame asks. -/
import Derived.Test.YthkobjbemmllfaaGreatDoorRows
import Derived.Test.YthkobjbemmllfaaGreatDoorTextsY
import Derived.ProofKit
import Derived.OpenShut
import Derived.LaidMore
import Derived.Stop.LaidErr
import Derived.SizedLaws
namespace Go.Proofs.YthkobjbemmllfaaGreatDoor
open Go.RowKit Go.ChangeShapes Go.WideShapes Go.ChangeAt
theorem star : "*" ++ "errors.errorString" = "*errors.errorString" := by decide
theorem rowE (u : TypeId) (h : Tryz.prog.typeName? 3 u = some "*errors.errorString") : u = 162 :=
  typeName_ptr_named (nm := "errors.errorString") (by rw [star]; kernel_rfl) (by kernel_rfl) (by decide) u (by rw [star]; exact h)
theorem errTypes : ErrTypes Tryz.prog 25 162 := by
  refine ⟨164, 9, _, _, Tryz.underlying25, rowE, Tryz.underlying162, Tryz.underlying164, ?_, ?_, Tryz.underlying9, by kernel_rfl, by kernel_rfl⟩
  · rfl
  · rfl
theorem own : ownKnob Tryz.prog.godebug = none := by kernel_rfl
theorem laidOut : laidOutB Tryz.prog = true := by kernel_rfl
theorem gPow : Tryz.prog.globalNamed "internal/strconv.uint64pow10" = some 39 := by kernel_rfl
theorem tPow : (Tryz.prog.globals[39]?).map (·.type) = some 129 := by kernel_rfl
theorem sr_of {W : World} {B : Nat → Addr} (h : EnvN 162 [41] W B) : SR W :=
  ⟨_, _, h.cell 41 (by decide), h.low 41 (by decide)⟩
theorem in64 {a : Int} (h : -9223372036854775808 ≤ a ∧ a ≤ 9223372036854775807) : In64 a := h
end Go.Proofs.YthkobjbemmllfaaGreatDoor
