/- Facts of the program that each law's frame asks. -/
import Derived.Test.YtodekiimkbejnaaGreatDoorNum
import Derived.ProofKit
import Derived.LaidMore
import Derived.Stop.LaidErr
namespace Go.Proofs.YtodekiimkbejnaaGreatDoor
open Go.RowKit
theorem star : "*" ++ "errors.errorString" = "*errors.errorString" := by decide
theorem rowE (u : TypeId) (h : Tryz.prog.typeName? 3 u = some "*errors.errorString") : u = 135 :=
  typeName_ptr_named (nm := "errors.errorString") (by rw [star]; kernel_rfl) (by kernel_rfl) (by decide) u (by rw [star]; exact h)
theorem errTypes : ErrTypes Tryz.prog 27 135 := by
  refine ⟨153, 9, _, _, Tryz.underlying27, rowE, Tryz.underlying135, Tryz.underlying153, ?_, ?_, Tryz.underlying9, by kernel_rfl, by kernel_rfl⟩
  · rfl
  · rfl
theorem own : ownKnob Tryz.prog.godebug = none := by kernel_rfl
theorem laidOut : laidOutB Tryz.prog = true := by kernel_rfl
end Go.Proofs.YtodekiimkbejnaaGreatDoor
