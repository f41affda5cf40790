/- Facts of the program that the law's frame asks; lists of numbers that came in; the bulk of what is read. -/
import Derived.Test.YthkobjbemmllfaaGreatDoorMemA
import Derived.Test.YthkobjbemmllfaaGreatDoorBigI
import Derived.Test.YthkobjbemmllfaaGreatDoorText
import Derived.Test.YthkobjbemmllfaaGreatDoorRows
import Derived.ProofKit
import Derived.OpenShut
import Derived.LaidMore
import Derived.Stop.LaidErr
import Derived.SizedLaws
namespace Go.Proofs.YthkobjbemmllfaaGreatDoor.bulks

theorem one_le {H : Type} (d : DataW H) : 1 ≤ Rows.uptoBulk d := by
  cases d with
  | lit l => cases l <;> simp [Rows.uptoBulk]
  | nil => simp [Rows.uptoBulk]
  | ptr d => simp [Rows.uptoBulk]
  | slice elems spare => simp [Rows.uptoBulk]
  | agg parts => simp [Rows.uptoBulk]
  | iface t d => simp [Rows.uptoBulk]
  | map entries => simp [Rows.uptoBulk]
  | held h => simp [Rows.uptoBulk]
theorem append {H : Type} (l r : List (DataW H)) : Rows.uptoBulkAll (l ++ r) = Rows.uptoBulkAll l + Rows.uptoBulkAll r := by
  induction l with
  | nil => simp [Rows.uptoBulkAll]
  | cons x l ih => simp only [List.cons_append, Rows.uptoBulkAll, ih]; omega
theorem part_le {H : Type} {d : DataW H} {l : List (DataW H)} (h : d ∈ l) : Rows.uptoBulk d ≤ Rows.uptoBulkAll l := by
  induction l with
  | nil => cases h
  | cons x r ih =>
    simp only [Rows.uptoBulkAll]
    cases List.mem_cons.1 h with
    | inl e => subst e; omega
    | inr e => have := ih e; omega
/-- The bulk of the first n. -/
def bsum {H : Type} (D : Nat → DataW H) : Nat → Nat
  | 0 => 0
  | n + 1 => bsum D n + Rows.uptoBulk (D n)
theorem all_range {H : Type} (D : Nat → DataW H) : ∀ n, Rows.uptoBulkAll ((List.range n).map D) = bsum D n
  | 0 => rfl
  | n + 1 => by
    rw [List.range_succ, List.map_append, append, all_range D n]
    simp [Rows.uptoBulkAll, bsum]
theorem bsum_ge {H : Type} (D : Nat → DataW H) : ∀ n, n ≤ bsum D n
  | 0 => Nat.le_refl _
  | n + 1 => by have := bsum_ge D n; have := one_le (D n); show _ ≤ bsum D n + _; omega
theorem bsum_at {H : Type} (D : Nat → DataW H) : ∀ n i, i < n → Rows.uptoBulk (D i) ≤ bsum D n
  | n + 1, i, h => by
    show _ ≤ bsum D n + _
    by_cases e : i = n
    · subst e; omega
    · have := bsum_at D n i (by omega); omega
theorem slice_range {H : Type} (D : Nat → DataW H) (n : Nat) (r : List (DataW H)) : bsum D n + 1 ≤ Rows.uptoBulk (.slice ((List.range n).map D) r) := by
  simp only [Rows.uptoBulk, all_range]; omega
theorem bound {H : Type} {l : List (DataW H)} (hk : Rows.uptoSmall H l = true) : Rows.uptoBulkAll l ≤ 1048576 := by
  unfold Rows.uptoSmall at hk
  exact of_decide_eq_true hk
theorem len_le {H : Type} (l : List (DataW H)) : l.length ≤ Rows.uptoBulkAll l := by
  induction l with
  | nil => exact Nat.zero_le _
  | cons x l ih => have := one_le x; simp only [List.length_cons, Rows.uptoBulkAll]; omega
end Go.Proofs.YthkobjbemmllfaaGreatDoor.bulks
namespace Go.Proofs.YthkobjbemmllfaaGreatDoor
open Go.RowKit Go.ChangeShapes Go.WideShapes Go.ChangeAt
theorem star : "*" ++ "errors.errorString" = "*errors.errorString" := by decide
theorem rowE (u : TypeId) (h : Tryz.prog.typeName? 3 u = some "*errors.errorString") : u = 188 :=
  typeName_ptr_named (nm := "errors.errorString") (by rw [star]; kernel_rfl) (by kernel_rfl) (by decide) u (by rw [star]; exact h)
theorem errTypes : ErrTypes Tryz.prog 28 188 := by
  refine ⟨190, 9, _, _, Tryz.underlying28, rowE, Tryz.underlying188, Tryz.underlying190, ?_, ?_, Tryz.underlying9, by kernel_rfl, by kernel_rfl⟩
  · rfl
  · rfl
theorem own : ownKnob Tryz.prog.godebug = none := by kernel_rfl
theorem laidOut : laidOutB Tryz.prog = true := by kernel_rfl
theorem bytes2 : Tryz.prog.bytesOf 2 = 8 := by kernel_rfl
theorem gPow : Tryz.prog.globalNamed "internal/strconv.uint64pow10" = some 42 := by kernel_rfl
theorem tPow : (Tryz.prog.globals[42]?).map (·.type) = some 151 := by kernel_rfl
theorem bytes3 : Tryz.prog.bytesOf 3 = 8 := by kernel_rfl
theorem add_at {b o : Nat} (i : Nat) : (⟨b, o, none⟩ : Addr).add i = ⟨b, o + i, none⟩ := by unfold Addr.add; split <;> simp_all
/-- What a list of numbers is that came in. -/
structure L64 (W : World) (v : Value) (A : Option Addr) (n c : Nat) (f : Nat → Int) : Prop where
  eq : v = .slice A n c
  le : n ≤ c
  tv : Tv W A n c f
  fits : ∀ i, i < n → fits64 (f i)
theorem L64.nil (W : World) : L64 W (.slice none 0 0) none 0 0 fun _ => 0 where
  eq := rfl
  le := Nat.le_refl _
  tv := ⟨fun _ => ⟨rfl, rfl⟩, .inl rfl⟩
  fits := fun i hi => absurd hi (Nat.not_lt_zero _)
set_option maxRecDepth 100000 in
theorem open_ws {H : Type} {enc : TypeId × Value → H} {w : World} {held : Bool} {v : Value} {d : DataW H} {p : List MemPlace} {b0 : Nat} (hv : Value.okWide Tryz.prog w .any b0 22 v) (h : DataW.Trod enc Tryz.prog w 0 (fun _ => true) held 22 v d p) :
    ∃ A n c f, L64 w v A n c f ∧ n ≤ Rows.uptoBulk d := by
  obtain ⟨A, n, c, rfl⟩ := okWide_slice Tryz.underlying22 hv
  obtain ⟨fuel, hf⟩ := h
  rcases open_ints Tryz.underlying22 Tryz.underlying3 (by kernel_rfl) hf with ⟨hcs, hx⟩ | ⟨x, l, cap, zs, hcs, _, hl, hm, hz, hx, hcell, hwz⟩
  · simp [Value.cells] at hcs
    obtain ⟨rfl, rfl, rfl⟩ := hcs
    exact ⟨none, 0, 0, fun _ => 0, L64.nil w, Nat.zero_le _⟩
  · simp [Value.cells] at hcs
    obtain ⟨rfl, rfl, rfl⟩ := hcs
    simp only [Prod.mk.injEq] at hx
    simp only [if_true] at hz
    refine ⟨some x, n, c, fun i => zs.getD i 0, ⟨rfl, hl, ⟨fun h => (by cases h), ?_⟩, fun i hi => ?_⟩, ?_⟩
    · rcases Nat.eq_zero_or_pos n with h0 | hn
      · exact .inl h0
      · obtain ⟨g, o, spot⟩ := x
        have hc := hcell 0 (by omega)
        have hspot : spot = none := by simpa [Addr.add] using World.cell?_spot hc
        subst hspot
        refine .inr ⟨g, o, rfl, World.block_lt_of_cell? w _ (by simpa [Addr.add] using hc), fun i hi => ?_⟩
        have := hcell i (by omega)
        rwa [add_at] at this
    · have hm : zs.getD i 0 ∈ zs := by rw [List.getD_eq_getElem?_getD, List.getElem?_eq_getElem (show i < zs.length by omega), Option.getD_some]; exact List.getElem_mem _
      exact bounds_i64 (hwz _ hm)
    · rw [hx.1]
      simp only [Rows.uptoBulk]
      have := bulks.len_le (H := H) (lits .i64 (zs.take n))
      have hl2 : (lits (H := H) .i64 (zs.take n)).length = n := by simp [lits]; omega
      omega
set_option maxRecDepth 100000 in
theorem open_i64s {H : Type} {enc : TypeId × Value → H} {w : World} {held : Bool} {v : Value} {d : DataW H} {p : List MemPlace} {b0 : Nat} (hv : Value.okWide Tryz.prog w .any b0 23 v) (h : DataW.Trod enc Tryz.prog w 0 (fun _ => true) held 23 v d p) :
    ∃ A n c f, L64 w v A n c f ∧ n ≤ Rows.uptoBulk d := by
  obtain ⟨A, n, c, rfl⟩ := okWide_slice Tryz.underlying23 hv
  obtain ⟨fuel, hf⟩ := h
  rcases open_ints Tryz.underlying23 Tryz.underlying2 (by kernel_rfl) hf with ⟨hcs, hx⟩ | ⟨x, l, cap, zs, hcs, _, hl, hm, hz, hx, hcell, hwz⟩
  · simp [Value.cells] at hcs
    obtain ⟨rfl, rfl, rfl⟩ := hcs
    exact ⟨none, 0, 0, fun _ => 0, L64.nil w, Nat.zero_le _⟩
  · simp [Value.cells] at hcs
    obtain ⟨rfl, rfl, rfl⟩ := hcs
    simp only [Prod.mk.injEq] at hx
    simp only [if_true] at hz
    refine ⟨some x, n, c, fun i => zs.getD i 0, ⟨rfl, hl, ⟨fun h => (by cases h), ?_⟩, fun i hi => ?_⟩, ?_⟩
    · rcases Nat.eq_zero_or_pos n with h0 | hn
      · exact .inl h0
      · obtain ⟨g, o, spot⟩ := x
        have hc := hcell 0 (by omega)
        have hspot : spot = none := by simpa [Addr.add] using World.cell?_spot hc
        subst hspot
        refine .inr ⟨g, o, rfl, World.block_lt_of_cell? w _ (by simpa [Addr.add] using hc), fun i hi => ?_⟩
        have := hcell i (by omega)
        rwa [add_at] at this
    · have hm : zs.getD i 0 ∈ zs := by rw [List.getD_eq_getElem?_getD, List.getElem?_eq_getElem (show i < zs.length by omega), Option.getD_some]; exact List.getElem_mem _
      exact bounds_i64 (hwz _ hm)
    · rw [hx.1]
      simp only [Rows.uptoBulk]
      have := bulks.len_le (H := H) (lits .i64 (zs.take n))
      have hl2 : (lits (H := H) .i64 (zs.take n)).length = n := by simp [lits]; omega
      omega
end Go.Proofs.YthkobjbemmllfaaGreatDoor
