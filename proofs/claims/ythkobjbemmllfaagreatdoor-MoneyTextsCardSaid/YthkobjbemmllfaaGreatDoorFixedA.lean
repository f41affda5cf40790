/- What Split(10, {3, 3, 1}) and Rate(12345, 150) come to: plain. -/
import Derived.Test.YthkobjbemmllfaaGreatDoorSortS
namespace Go.Proofs.YthkobjbemmllfaaGreatDoor
open Go.RowKit Go.Sort

def ws3 (i : Nat) : Nat := if i = 2 then 1 else 3
theorem ws3_sum : nsum ws3 3 = 7 := by decide
theorem ord3 : Sort.insertionSort (ltP (rf 10 7 ws3) 2) (idP 2) 0 3 = #[2, 0, 1] := by decide +kernel
theorem isOrd3 : IsOrd (rf 10 7 ws3) 3 fun i => ((Sort.insertionSort (ltP (rf 10 7 ws3) 2) (idP 2) 0 3)[i]!).val := by
  rw [ord3]
  refine ⟨fun i hi => ?_, fun i j hij hj => ?_⟩
  · exact ((#[2, 0, 1] : Array (Fin 3))[i]!).isLt
  · have : i = 0 ∧ j = 1 ∨ i = 0 ∧ j = 2 ∨ i = 1 ∧ j = 2 := by omega
    rcases this with ⟨rfl, rfl⟩ | ⟨rfl, rfl⟩ | ⟨rfl, rfl⟩ <;> decide +kernel
theorem sort3 : SortOK 3 (rf 10 7 ws3) := sort_small 2 (by decide) (by decide) _ isOrd3 (by rw [ord3]; rfl)
/-- The shares, whatever ord is in that order. -/
theorem shares3 {ord : Nat → Nat} (h : IsOrd (rf 10 7 ws3) 3 ord) : ∀ x, x < 3 → qf 10 7 ws3 x + among ord (10 - nsum (qf 10 7 ws3) 3) x = if x = 2 then 2 else 4 := by
  have e : 10 - nsum (qf 10 7 ws3) 3 = 1 := by decide
  rw [e]
  have h0 := h.lt 0 (by decide); have h1 := h.lt 1 (by decide); have h2 := h.lt 2 (by decide)
  have o1 := h.ord 0 1 (by decide) (by decide); have o2 := h.ord 0 2 (by decide) (by decide)
  have i1 : ord 0 ≠ ord 1 := fun e => by have := h.inj (by decide) (by decide) e; omega
  have i2 : ord 0 ≠ ord 2 := fun e => by have := h.inj (by decide) (by decide) e; omega
  have i3 : ord 1 ≠ ord 2 := fun e => by have := h.inj (by decide) (by decide) e; omega
  have r0 : rf 10 7 ws3 0 = 2 := by decide
  have r1 : rf 10 7 ws3 1 = 2 := by decide
  have r2 : rf 10 7 ws3 2 = 3 := by decide
  have hh : ord 0 = 2 := by
    have hc : ord 1 = 2 ∨ ord 2 = 2 ∨ ord 0 = 2 := by omega
    have hz : ∀ y, y < 3 → y ≠ 2 → rf 10 7 ws3 y = 2 := fun y hy hne => by
      have : y = 0 ∨ y = 1 := by omega
      rcases this with rfl | rfl
      · exact r0
      · exact r1
    rcases hc with hc | hc | hc
    · exfalso
      rw [hc, r2, hz (ord 0) h0 (by omega)] at o1; omega
    · exfalso
      rw [hc, r2, hz (ord 0) h0 (by omega)] at o2; omega
    · exact hc
  intro x hx
  have : x = 0 ∨ x = 1 ∨ x = 2 := by omega
  unfold among among
  rw [hh]
  rcases this with rfl | rfl | rfl <;> decide
theorem rate3 : rateOf (12345 * 150) = 185 := by decide
end Go.Proofs.YthkobjbemmllfaaGreatDoor
