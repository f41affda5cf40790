/- Slices of ints and of bools that came in, opened. -/
import Derived.Test.YtfcalpfpfibbfaaDoorBackW
import Derived.Test.YtfcalpfpfibbfaaDoorOwn
import Derived.Deep.Grids
namespace Go.Proofs.YtfcalpfpfibbfaaDoor
open Go.ChangeShapes Go.WideShapes Go.ChangeAt Go.RowKit Go.Deep

theorem cells3 : Tryd.prog.cellsOf 3 = 1 := by kernel_rfl
theorem cells4 : Tryd.prog.cellsOf 4 = 1 := by kernel_rfl
theorem at_of_add {x : Addr} {g o : Nat} (hx : x = ⟨g, o, none⟩) (i : Nat) : x.add i = ⟨g, o + i, none⟩ := by
  subst hx; unfold Addr.add; split <;> simp_all

theorem sl_of {w : World} {x : Addr} {n : Nat} {f : Nat → Value} (h : ∀ i, i < n → w.cell? (x.add i) = some (f i)) : Sl w (some x) n f := by
  intro hn
  obtain ⟨g, o, spot⟩ := x
  have hc := h 0 hn
  have hspot : spot = none := by simpa [Addr.add] using World.cell?_spot hc
  subst hspot
  refine ⟨g, o, rfl, World.block_lt_of_cell? w _ (by simpa [Addr.add] using hc), fun i hi => ?_⟩
  have := h i hi
  rwa [at_of_add rfl] at this

set_option maxRecDepth 100000 in
theorem open_i64s {H : Type} {enc : TypeId × Value → H} {w : World} {held : Bool} {t : TypeId} {v : Value} {d : DataW H} {p : List MemPlace} {b0 : Nat} (ht : Tryd.prog.underlying t = some (.slice 3)) (hv : Value.okWide Tryd.prog w .any b0 t v) (h : DataW.Trod enc Tryd.prog w 0 (fun _ => true) held t v d p) :
    ∃ (A : Option Addr) (n c : Nat) (z : Nat → Int), v = .slice A n c ∧ n ≤ maxLen ∧ Sl w A n (fun i => .int .i64 (z i)) := by
  obtain ⟨A, n, c, rfl⟩ := okWide_slice ht hv
  obtain ⟨fuel, hf⟩ := h
  rcases open_ints ht Tryd.underlying3 cells3 hf with ⟨hcs, hx⟩ | ⟨x, l, cap, zs, hcs, _, hl, hm, hz, hx, hcell, hwz⟩
  · simp [Value.cells] at hcs
    obtain ⟨rfl, rfl, rfl⟩ := hcs
    exact ⟨none, 0, 0, fun _ => 0, rfl, Nat.zero_le _, fun h => absurd h (Nat.lt_irrefl _)⟩
  · simp [Value.cells] at hcs
    obtain ⟨rfl, rfl, rfl⟩ := hcs
    simp only [if_true] at hz
    exact ⟨some x, n, c, fun i => zs.getD i 0, rfl, Nat.le_trans hl hm, sl_of fun i hi => hcell i (by omega)⟩

set_option maxRecDepth 100000 in
theorem open_bs {H : Type} {enc : TypeId × Value → H} {w : World} {held : Bool} {t : TypeId} {v : Value} {d : DataW H} {p : List MemPlace} {b0 : Nat} (ht : Tryd.prog.underlying t = some (.slice 4)) (hv : Value.okWide Tryd.prog w .any b0 t v) (h : DataW.Trod enc Tryd.prog w 0 (fun _ => true) held t v d p) :
    ∃ (A : Option Addr) (n c : Nat) (y : Nat → Bool), v = .slice A n c ∧ n ≤ maxLen ∧ Sl w A n (fun i => .bool (y i)) := by
  obtain ⟨A, n, c, rfl⟩ := okWide_slice ht hv
  obtain ⟨fuel, hf⟩ := h
  rcases open_bools ht Tryd.underlying4 cells4 hf with ⟨hcs, hx⟩ | ⟨x, l, cap, y, hcs, _, hl, hm, hx, hcell⟩
  · simp [Value.cells] at hcs
    obtain ⟨rfl, rfl, rfl⟩ := hcs
    exact ⟨none, 0, 0, fun _ => false, rfl, Nat.zero_le _, fun h => absurd h (Nat.lt_irrefl _)⟩
  · simp [Value.cells] at hcs
    obtain ⟨rfl, rfl, rfl⟩ := hcs
    exact ⟨some x, n, c, y, rfl, Nat.le_trans hl hm, sl_of fun i hi => hcell i (by omega)⟩
end Go.Proofs.YtfcalpfpfibbfaaDoor
