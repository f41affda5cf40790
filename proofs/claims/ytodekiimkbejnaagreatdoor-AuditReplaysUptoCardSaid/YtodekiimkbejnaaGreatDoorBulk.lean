/- What the bound on the bulk gives. -/
import Derived.Test.YtodekiimkbejnaaGreatDoorRows
namespace Go.Proofs.YtodekiimkbejnaaGreatDoor.bulks

theorem one_le {H : Type} (d : DataW H) : 1 ≤ Rows.uptoBulk d := by
  cases d with
  | lit l => cases l <;> simp [Rows.uptoBulk]
  | nil => simp [Rows.uptoBulk]
  | ptr d => simp [Rows.uptoBulk]
  | slice elems spare => simp [Rows.uptoBulk]
  | agg parts => simp [Rows.uptoBulk]
  | iface t d => simp [Rows.uptoBulk]
  | map entries => simp [Rows.uptoBulk]
  | held h => simp [Rows.uptoBulk]
theorem append {H : Type} (l r : List (DataW H)) : Rows.uptoBulkAll (l ++ r) = Rows.uptoBulkAll l + Rows.uptoBulkAll r := by
  induction l with
  | nil => simp [Rows.uptoBulkAll]
  | cons x l ih => simp only [List.cons_append, Rows.uptoBulkAll, ih]; omega
theorem part_le {H : Type} {d : DataW H} {l : List (DataW H)} (h : d ∈ l) : Rows.uptoBulk d ≤ Rows.uptoBulkAll l := by
  induction l with
  | nil => cases h
  | cons x r ih =>
    simp only [Rows.uptoBulkAll]
    cases List.mem_cons.1 h with
    | inl e => subst e; omega
    | inr e => have := ih e; omega
/-- The bulk of the first n. -/
def bsum {H : Type} (D : Nat → DataW H) : Nat → Nat
  | 0 => 0
  | n + 1 => bsum D n + Rows.uptoBulk (D n)
theorem all_range {H : Type} (D : Nat → DataW H) : ∀ n, Rows.uptoBulkAll ((List.range n).map D) = bsum D n
  | 0 => rfl
  | n + 1 => by
    rw [List.range_succ, List.map_append, append, all_range D n]
    simp [Rows.uptoBulkAll, bsum]
theorem bsum_ge {H : Type} (D : Nat → DataW H) : ∀ n, n ≤ bsum D n
  | 0 => Nat.le_refl _
  | n + 1 => by have := bsum_ge D n; have := one_le (D n); show _ ≤ bsum D n + _; omega
theorem bsum_at {H : Type} (D : Nat → DataW H) : ∀ n i, i < n → Rows.uptoBulk (D i) ≤ bsum D n
  | n + 1, i, h => by
    show _ ≤ bsum D n + _
    by_cases e : i = n
    · subst e; omega
    · have := bsum_at D n i (by omega); omega
theorem slice_range {H : Type} (D : Nat → DataW H) (n : Nat) (r : List (DataW H)) : bsum D n + 1 ≤ Rows.uptoBulk (.slice ((List.range n).map D) r) := by
  simp only [Rows.uptoBulk, all_range]; omega
theorem bound {H : Type} {l : List (DataW H)} (hk : Rows.uptoSmall H l = true) : Rows.uptoBulkAll l ≤ 1048576 := by
  unfold Rows.uptoSmall at hk
  exact of_decide_eq_true hk
end Go.Proofs.YtodekiimkbejnaaGreatDoor.bulks
