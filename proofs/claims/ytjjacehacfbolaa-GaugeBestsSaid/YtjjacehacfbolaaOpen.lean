/- Slices of integers and of bools that come in, opened: what their cells hold. -/
import Derived.Test.YtjjacehacfbolaaBest
import Derived.ProofKit
import Derived.OpenShut
import Derived.ShutString
import Derived.ChangeOld
import Derived.Below
import Derived.SizedLaws
import Derived.Deep.Grids
namespace Go.Proofs.Ytjjacehacfbolaa
open Go.ChangeShapes Go.WideShapes Go.ChangeAt Go.RowKit

theorem at_of_add {x : Addr} {g o : Nat} (hx : x = ⟨g, o, none⟩) (i : Nat) : x.add i = ⟨g, o + i, none⟩ := by
  subst hx; unfold Addr.add; split <;> simp_all

section
variable {H : Type} {enc : TypeId × Value → H} {w : World} {held : Bool}
/-- A slice of uint32 that came in. -/
theorem open_u32s {v : Value} {d : DataW H} {p : List MemPlace} {b0 : Nat} (hv : Value.okWide Try.prog w .any b0 29 v) (h : DataW.Trod enc Try.prog w 0 (fun _ => true) held 29 v d p) :
    ∃ (A : Option Addr) (n c : Nat) (z : Nat → Nat) (L R : List (DataW H)), v = .slice A n c ∧ ((d = .nil ∧ c = 0) ∨ (d = .slice L R ∧ L.length + R.length = c)) ∧ n ≤ c ∧ Sl w A n (fun i => .int .u32 (z i)) ∧ ∀ i, i < n → z i < 4294967296 := by
  obtain ⟨A, n, c, rfl⟩ := okWide_slice Try.underlying29 hv
  obtain ⟨fuel, hf⟩ := h
  rcases open_ints Try.underlying29 Try.underlying22 (by kernel_rfl) hf with ⟨hcs, hx⟩ | ⟨x, l, cap, zs, hcs, _, hl, hm, hz, hx, hcell, hwz⟩
  · simp [Value.cells] at hcs
    obtain ⟨rfl, rfl, rfl⟩ := hcs
    simp only [Prod.mk.injEq] at hx
    exact ⟨none, 0, 0, fun _ => 0, [], [], rfl, .inl ⟨hx.1, rfl⟩, Nat.le_refl _, fun h => absurd h (Nat.lt_irrefl _), fun i hi => absurd hi (Nat.not_lt_zero _)⟩
  · simp [Value.cells] at hcs
    obtain ⟨rfl, rfl, rfl⟩ := hcs
    simp only [Prod.mk.injEq] at hx
    simp only [if_true] at hz
    have hb : ∀ i, i < zs.length → 0 ≤ zs.getD i 0 ∧ zs.getD i 0 ≤ 4294967295 := by
      intro i hi
      have : zs.getD i 0 = zs[i] := by simp [List.getD, List.getElem?_eq_getElem hi]
      rw [this]; exact bounds_u32 (hwz _ (List.getElem_mem hi))
    refine ⟨some x, n, c, fun i => (zs.getD i 0).toNat, lits .u32 (zs.take n), lits .u32 (zs.drop n), rfl, .inr ⟨hx.1, ?_⟩, hl, fun hn => ?_, fun i hi => ?_⟩
    · simp [lits]; omega
    · obtain ⟨g, o, spot⟩ := x
      have hc := hcell 0 (by omega)
      have hspot : spot = none := by simpa [Addr.add] using World.cell?_spot hc
      subst hspot
      refine ⟨g, o, rfl, World.block_lt_of_cell? w _ (by simpa [Addr.add] using hc), fun i hi => ?_⟩
      have := hcell i (by omega)
      rw [at_of_add rfl] at this
      rw [this]
      have := (hb i (by omega)).1
      show some (Value.int IntKind.u32 (zs.getD i 0)) = some (Value.int .u32 ((zs.getD i 0).toNat : Int))
      rw [Int.toNat_of_nonneg this]
    · have := hb i (by omega)
      show (zs.getD i 0).toNat < 4294967296
      omega

/-- A slice of bools that came in. -/
theorem open_bs {v : Value} {d : DataW H} {p : List MemPlace} {b0 : Nat} (hv : Value.okWide Try.prog w .any b0 30 v) (h : DataW.Trod enc Try.prog w 0 (fun _ => true) held 30 v d p) :
    ∃ (A : Option Addr) (n c : Nat) (z : Nat → Bool) (L R : List (DataW H)), v = .slice A n c ∧ ((d = .nil ∧ c = 0) ∨ (d = .slice L R ∧ L.length + R.length = c)) ∧ n ≤ c ∧ Sl w A n (fun i => .bool (z i)) := by
  obtain ⟨A, n, c, rfl⟩ := okWide_slice Try.underlying30 hv
  obtain ⟨fuel, hf⟩ := h
  rcases Go.Deep.open_bools Try.underlying30 Try.underlying4 (by kernel_rfl) hf with ⟨hcs, hx⟩ | ⟨x, l, cap, zs, hcs, _, hl, hm, hx, hcell⟩
  · simp [Value.cells] at hcs
    obtain ⟨rfl, rfl, rfl⟩ := hcs
    simp only [Prod.mk.injEq] at hx
    exact ⟨none, 0, 0, fun _ => false, [], [], rfl, .inl ⟨hx.1, rfl⟩, Nat.le_refl _, fun h => absurd h (Nat.lt_irrefl _)⟩
  · simp [Value.cells] at hcs
    obtain ⟨rfl, rfl, rfl⟩ := hcs
    simp only [Prod.mk.injEq] at hx
    refine ⟨some x, n, c, zs, _, _, rfl, .inr ⟨hx.1, ?_⟩, hl, fun hn => ?_⟩
    · simp; omega
    · obtain ⟨g, o, spot⟩ := x
      have hc := hcell 0 (by omega)
      have hspot : spot = none := by simpa [Addr.add] using World.cell?_spot hc
      subst hspot
      refine ⟨g, o, rfl, World.block_lt_of_cell? w _ (by simpa [Addr.add] using hc), fun i hi => ?_⟩
      have := hcell i (by omega)
      rwa [at_of_add rfl] at this

/-- A slice takes at most the form's reach. -/
theorem sized_any {ts : List TypeId} {ds : List (DataW H)} {P : Program} {j t e c : Nat} {d : DataW H} {L R : List (DataW H)} (h : (DataW.weightsEach P ts ds).all (· ≤ reachBytes) = true) (ht : ts[j]? = some t) (hd : ds[j]? = some d)
    (hu : P.underlying t = some (.slice e)) (hx : (d = .nil ∧ c = 0) ∨ (d = .slice L R ∧ L.length + R.length = c)) : c * P.bytesOf e ≤ 140737488351232 := by
  rcases hx with ⟨_, rfl⟩ | ⟨rfl, rfl⟩
  · simp
  · exact sized_slice h ht hd hu
end
end Go.Proofs.Ytjjacehacfbolaa
