/- Facts of the program that each law's frame asks; a list of numbers that came in. -/
import Derived.Test.YtkndmjhiijgmbaaGreatDoorSumsW
import Derived.Test.YtkndmjhiijgmbaaGreatDoorFixed
import Derived.ProofKit
import Derived.OpenShut
import Derived.LaidMore
import Derived.Stop.LaidErr
import Derived.SizedLaws
namespace Go.Proofs.YtkndmjhiijgmbaaGreatDoor
open Go.RowKit Go.ChangeShapes Go.WideShapes Go.ChangeAt
theorem star : "*" ++ "errors.errorString" = "*errors.errorString" := by decide
theorem rowE (u : TypeId) (h : Tryz.prog.typeName? 3 u = some "*errors.errorString") : u = 267 :=
  typeName_ptr_named (nm := "errors.errorString") (by rw [star]; kernel_rfl) (by kernel_rfl) (by decide) u (by rw [star]; exact h)
theorem errTypes : ErrTypes Tryz.prog 26 267 := by
  refine ⟨290, 9, _, _, Tryz.underlying26, rowE, Tryz.underlying267, Tryz.underlying290, ?_, ?_, Tryz.underlying9, by kernel_rfl, by kernel_rfl⟩
  · rfl
  · rfl
theorem own : ownKnob Tryz.prog.godebug = none := by kernel_rfl
theorem laidOut : laidOutB Tryz.prog = true := by kernel_rfl
theorem bytes2 : Tryz.prog.bytesOf 2 = 8 := by kernel_rfl
theorem gPow : Tryz.prog.globalNamed "internal/strconv.uint64pow10" = some 44 := by kernel_rfl
theorem tPow : (Tryz.prog.globals[44]?).map (·.type) = some 126 := by kernel_rfl
/-- What a list of int64 is. -/
structure I64s (W : World) (v : Value) (A : Option Addr) (n c : Nat) (f : Nat → Int) : Prop where
  eq : v = .slice A n c
  le : n ≤ c
  ints : Ints W A n f
  fits : ∀ i, i < n → fits64 (f i)
  small : n ≤ 17592186044416
theorem I64s.nil (W : World) : I64s W (.slice none 0 0) none 0 0 fun _ => 0 where
  eq := rfl
  le := Nat.le_refl _
  ints := .inl rfl
  fits := fun i hi => absurd hi (Nat.not_lt_zero _)
  small := by decide
set_option maxRecDepth 100000 in
theorem open_i64s {H : Type} {enc : TypeId × Value → H} {w : World} {held : Bool} {v : Value} {d : DataW H} {p : List MemPlace} {b0 : Nat} (hv : Value.okWide Tryz.prog w .any b0 24 v) (h : DataW.Trod enc Tryz.prog w 0 (fun _ => true) held 24 v d p)
    (hs : ∀ L R, d = .slice L R → (L.length + R.length) * Tryz.prog.bytesOf 2 ≤ reachBytes) : ∃ A n c f, I64s w v A n c f := by
  obtain ⟨A, n, c, rfl⟩ := okWide_slice Tryz.underlying24 hv
  obtain ⟨fuel, hf⟩ := h
  rcases open_ints Tryz.underlying24 Tryz.underlying2 (by kernel_rfl) hf with ⟨hcs, hx⟩ | ⟨x, l, cap, zs, hcs, _, hl, hm, hz, hx, hcell, hwz⟩
  · simp [Value.cells] at hcs
    obtain ⟨rfl, rfl, rfl⟩ := hcs
    exact ⟨none, 0, 0, fun _ => 0, I64s.nil w⟩
  · simp [Value.cells] at hcs
    obtain ⟨rfl, rfl, rfl⟩ := hcs
    simp only [Prod.mk.injEq] at hx
    simp only [if_true] at hz
    have hsz := hs _ _ hx.1
    have h47 := reachBytes_lt
    rw [bytes2] at hsz
    simp [lits] at hsz
    refine ⟨some x, n, c, fun i => zs.getD i 0, rfl, hl, ?_, fun i hi => ?_, by omega⟩
    · rcases Nat.eq_zero_or_pos n with h0 | hn
      · exact .inl h0
      · obtain ⟨g, o, spot⟩ := x
        have hc := hcell 0 (by omega)
        have hspot : spot = none := by simpa [Addr.add] using World.cell?_spot hc
        subst hspot
        refine .inr ⟨g, o, rfl, World.block_lt_of_cell? w _ (by simpa [Addr.add] using hc), fun i hi => ?_⟩
        have := hcell i (by omega)
        rwa [add_at] at this
    · have hm : zs.getD i 0 ∈ zs := by rw [List.getD_eq_getElem?_getD, List.getElem?_eq_getElem (show i < zs.length by omega), Option.getD_some]; exact List.getElem_mem _
      exact bounds_i64 (hwz _ hm)
end Go.Proofs.YtkndmjhiijgmbaaGreatDoor
