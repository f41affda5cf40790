/- Facts of the program that each law's frame asks. -/
import Derived.Test.YtodekiimkbejnaaDoorNum
import Derived.ProofKit
import Derived.LaidMore
import Derived.Stop.LaidErr
namespace Go.Proofs.YtodekiimkbejnaaDoor
open Go.RowKit
theorem star : "*" ++ "errors.errorString" = "*errors.errorString" := by decide
theorem rowE (u : TypeId) (h : Tryd.prog.typeName? 3 u = some "*errors.errorString") : u = 119 :=
  typeName_ptr_named (nm := "errors.errorString") (by rw [star]; kernel_rfl) (by kernel_rfl) (by decide) u (by rw [star]; exact h)
theorem errTypes : ErrTypes Tryd.prog 26 119 := by
  refine ⟨137, 9, _, _, Tryd.underlying26, rowE, Tryd.underlying119, Tryd.underlying137, ?_, ?_, Tryd.underlying9, by kernel_rfl, by kernel_rfl⟩
  · rfl
  · rfl
theorem own : ownKnob Tryd.prog.godebug = none := by kernel_rfl
theorem laidOut : laidOutB Tryd.prog = true := by kernel_rfl
end Go.Proofs.YtodekiimkbejnaaDoor
