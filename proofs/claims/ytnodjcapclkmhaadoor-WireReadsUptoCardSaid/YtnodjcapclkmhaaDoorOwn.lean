/- Facts of the program that each law's frame asks. -/
import Derived.Test.YtnodjcapclkmhaaDoorNum
import Derived.ProofKit
import Derived.LaidMore
import Derived.Stop.LaidErr
namespace Go.Proofs.YtnodjcapclkmhaaDoor
open Go.RowKit
theorem star : "*" ++ "errors.errorString" = "*errors.errorString" := by decide
theorem row123 (u : TypeId) (h : Tryd.prog.typeName? 3 u = some "*errors.errorString") : u = 123 :=
  typeName_ptr_named (nm := "errors.errorString") (by rw [star]; kernel_rfl) (by kernel_rfl) (by decide) u (by rw [star]; exact h)
theorem field1 {f g : Field} (h : f = g) : f.type = g.type ∧ f.offset = g.offset := by subst h; exact ⟨rfl, rfl⟩
theorem errTypes : ErrTypes Tryd.prog 45 123 := by
  refine ⟨138, 9, _, _, Tryd.underlying45, row123, Tryd.underlying123, Tryd.underlying138, ?_, ?_, Tryd.underlying9, by kernel_rfl, by kernel_rfl⟩
  · rfl
  · rfl
theorem own : ownKnob Tryd.prog.godebug = none := by kernel_rfl
theorem laidOut : laidOutB Tryd.prog = true := by kernel_rfl
end Go.Proofs.YtnodjcapclkmhaaDoor
