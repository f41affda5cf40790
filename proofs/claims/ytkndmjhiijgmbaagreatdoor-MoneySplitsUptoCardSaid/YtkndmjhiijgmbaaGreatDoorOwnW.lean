/- Facts of the program that each law's frame asks; a list of weights that came in; the bulk of what is read. -/
import Derived.Test.YtkndmjhiijgmbaaGreatDoorSplitsC
import Derived.Test.YtkndmjhiijgmbaaGreatDoorFixed
import Derived.Test.YtkndmjhiijgmbaaGreatDoorBigI
import Derived.Test.YtkndmjhiijgmbaaGreatDoorText
import Derived.Test.YtkndmjhiijgmbaaGreatDoorRows
import Derived.ProofKit
import Derived.OpenShut
import Derived.LaidMore
import Derived.Stop.LaidErr
import Derived.SizedLaws
namespace Go.Proofs.YtkndmjhiijgmbaaGreatDoor
open Go.RowKit

theorem okTo_sum {z : Nat → Int} {n : Nat} : ∀ i, i ≤ n → okTo z i = true → nsum (wz z) i ≤ n * 1000000 := fun i hi hok => by
  exact Nat.le_trans (nsum_le (f := wz z) (M := 1000000) (N := i) (fun j hj => (wz_at hok hj).2) i (Nat.le_refl _)) (Nat.mul_le_mul_right 1000000 hi)
theorem splits_walk (B : Nat → Addr) (a : Int) (A : Option Addr) (n c : Nat) (z : Nat → Int) (w : World) (hE : Env w B) (htab : Tab w) (ha : a ≤ 9223372036854775807) (hA : Ints w A n z) (hn : n ≤ 1048576) :
    Calls Tryz.prog 3 #[.int .i64 a, .slice A n c] w fun e w' => e = .returned (.bool true) ∧ Below w.heap.size w w' := by
  have hfix := fixed_any B w hE htab
  by_cases h0 : a < 0
  · exact splits_neg B a A n c z w hE hfix hA (by omega) h0
  · by_cases hbad : okTo z n = true ∧ nsum (wz z) n ≠ 0
    · obtain ⟨hok, hne⟩ := hbad
      obtain ⟨m, rfl⟩ : ∃ m : Nat, a = m := ⟨a.toNat, by omega⟩
      have hs := okTo_sum n (Nat.le_refl _) hok
      have hn1 : 1 ≤ n := by
        rcases Nat.eq_zero_or_pos n with e | e
        · subst e; exact absurd rfl hne
        · exact e
      exact splits_good B m A n c (nsum (wz z) n) (wz z) w hE hfix (nums_of hA hok) (fun i hi => (wz_at hok hi).2) (by omega) (by omega) rfl (by omega) (by omega) fun w' hb =>
        split_any A n c m (nsum (wz z) n) (wz z) w' (by omega) (nums_of (hA.below hb) hok) (fun i hi => (wz_at hok hi).2) (by omega) rfl (by omega) (by omega) (fun i hi => divOK_share (by omega) rfl (by omega) (by omega) hi) (sort_any n hn1 (by omega) _)
    · exact splits_bad B a A n c z w hE hfix hA (by omega) (by omega) hbad fun i hi hok => by
        have := okTo_sum i hi hok
        omega
end Go.Proofs.YtkndmjhiijgmbaaGreatDoor
namespace Go.Proofs.YtkndmjhiijgmbaaGreatDoor.bulks

theorem one_le {H : Type} (d : DataW H) : 1 ≤ Rows.uptoBulk d := by
  cases d with
  | lit l => cases l <;> simp [Rows.uptoBulk]
  | nil => simp [Rows.uptoBulk]
  | ptr d => simp [Rows.uptoBulk]
  | slice elems spare => simp [Rows.uptoBulk]
  | agg parts => simp [Rows.uptoBulk]
  | iface t d => simp [Rows.uptoBulk]
  | map entries => simp [Rows.uptoBulk]
  | held h => simp [Rows.uptoBulk]
theorem append {H : Type} (l r : List (DataW H)) : Rows.uptoBulkAll (l ++ r) = Rows.uptoBulkAll l + Rows.uptoBulkAll r := by
  induction l with
  | nil => simp [Rows.uptoBulkAll]
  | cons x l ih => simp only [List.cons_append, Rows.uptoBulkAll, ih]; omega
theorem part_le {H : Type} {d : DataW H} {l : List (DataW H)} (h : d ∈ l) : Rows.uptoBulk d ≤ Rows.uptoBulkAll l := by
  induction l with
  | nil => cases h
  | cons x r ih =>
    simp only [Rows.uptoBulkAll]
    cases List.mem_cons.1 h with
    | inl e => subst e; omega
    | inr e => have := ih e; omega
/-- The bulk of the first n. -/
def bsum {H : Type} (D : Nat → DataW H) : Nat → Nat
  | 0 => 0
  | n + 1 => bsum D n + Rows.uptoBulk (D n)
theorem all_range {H : Type} (D : Nat → DataW H) : ∀ n, Rows.uptoBulkAll ((List.range n).map D) = bsum D n
  | 0 => rfl
  | n + 1 => by
    rw [List.range_succ, List.map_append, append, all_range D n]
    simp [Rows.uptoBulkAll, bsum]
theorem bsum_ge {H : Type} (D : Nat → DataW H) : ∀ n, n ≤ bsum D n
  | 0 => Nat.le_refl _
  | n + 1 => by have := bsum_ge D n; have := one_le (D n); show _ ≤ bsum D n + _; omega
theorem bsum_at {H : Type} (D : Nat → DataW H) : ∀ n i, i < n → Rows.uptoBulk (D i) ≤ bsum D n
  | n + 1, i, h => by
    show _ ≤ bsum D n + _
    by_cases e : i = n
    · subst e; omega
    · have := bsum_at D n i (by omega); omega
theorem slice_range {H : Type} (D : Nat → DataW H) (n : Nat) (r : List (DataW H)) : bsum D n + 1 ≤ Rows.uptoBulk (.slice ((List.range n).map D) r) := by
  simp only [Rows.uptoBulk, all_range]; omega
theorem bound {H : Type} {l : List (DataW H)} (hk : Rows.uptoSmall H l = true) : Rows.uptoBulkAll l ≤ 1048576 := by
  unfold Rows.uptoSmall at hk
  exact of_decide_eq_true hk
theorem len_le {H : Type} (l : List (DataW H)) : l.length ≤ Rows.uptoBulkAll l := by
  induction l with
  | nil => exact Nat.zero_le _
  | cons x l ih => have := one_le x; simp only [List.length_cons, Rows.uptoBulkAll]; omega
end Go.Proofs.YtkndmjhiijgmbaaGreatDoor.bulks
namespace Go.Proofs.YtkndmjhiijgmbaaGreatDoor
open Go.RowKit Go.ChangeShapes Go.WideShapes Go.ChangeAt
theorem star : "*" ++ "errors.errorString" = "*errors.errorString" := by decide
theorem rowE (u : TypeId) (h : Tryz.prog.typeName? 3 u = some "*errors.errorString") : u = 267 :=
  typeName_ptr_named (nm := "errors.errorString") (by rw [star]; kernel_rfl) (by kernel_rfl) (by decide) u (by rw [star]; exact h)
theorem errTypes : ErrTypes Tryz.prog 26 267 := by
  refine ⟨290, 9, _, _, Tryz.underlying26, rowE, Tryz.underlying267, Tryz.underlying290, ?_, ?_, Tryz.underlying9, by kernel_rfl, by kernel_rfl⟩
  · rfl
  · rfl
theorem own : ownKnob Tryz.prog.godebug = none := by kernel_rfl
theorem laidOut : laidOutB Tryz.prog = true := by kernel_rfl
theorem bytes2 : Tryz.prog.bytesOf 2 = 8 := by kernel_rfl
theorem gPow : Tryz.prog.globalNamed "internal/strconv.uint64pow10" = some 44 := by kernel_rfl
theorem tPow : (Tryz.prog.globals[44]?).map (·.type) = some 126 := by kernel_rfl
theorem bytes3 : Tryz.prog.bytesOf 3 = 8 := by kernel_rfl
theorem add_at {b o : Nat} (i : Nat) : (⟨b, o, none⟩ : Addr).add i = ⟨b, o + i, none⟩ := by unfold Addr.add; split <;> simp_all
/-- What a list of weights is. -/
structure WsIn (W : World) (v : Value) (A : Option Addr) (n c : Nat) (f : Nat → Int) : Prop where
  eq : v = .slice A n c
  le : n ≤ c
  ints : Ints W A n f
set_option maxRecDepth 100000 in
theorem open_ws {H : Type} {enc : TypeId × Value → H} {w : World} {held : Bool} {v : Value} {d : DataW H} {p : List MemPlace} {b0 : Nat} (hv : Value.okWide Tryz.prog w .any b0 22 v) (h : DataW.Trod enc Tryz.prog w 0 (fun _ => true) held 22 v d p) :
    ∃ A n c f, WsIn w v A n c f ∧ n ≤ Rows.uptoBulk d := by
  obtain ⟨A, n, c, rfl⟩ := okWide_slice Tryz.underlying22 hv
  obtain ⟨fuel, hf⟩ := h
  rcases open_ints Tryz.underlying22 Tryz.underlying3 (by kernel_rfl) hf with ⟨hcs, hx⟩ | ⟨x, l, cap, zs, hcs, _, hl, hm, hz, hx, hcell, hwz⟩
  · simp [Value.cells] at hcs
    obtain ⟨rfl, rfl, rfl⟩ := hcs
    exact ⟨none, 0, 0, fun _ => 0, ⟨rfl, Nat.le_refl _, .inl rfl⟩, Nat.zero_le _⟩
  · simp [Value.cells] at hcs
    obtain ⟨rfl, rfl, rfl⟩ := hcs
    simp only [Prod.mk.injEq] at hx
    simp only [if_true] at hz
    refine ⟨some x, n, c, fun i => zs.getD i 0, ⟨rfl, hl, ?_⟩, ?_⟩
    · rcases Nat.eq_zero_or_pos n with h0 | hn
      · exact .inl h0
      · obtain ⟨g, o, spot⟩ := x
        have hc := hcell 0 (by omega)
        have hspot : spot = none := by simpa [Addr.add] using World.cell?_spot hc
        subst hspot
        refine .inr ⟨g, o, rfl, World.block_lt_of_cell? w _ (by simpa [Addr.add] using hc), fun i hi => ?_⟩
        have := hcell i (by omega)
        rwa [add_at] at this
    · rw [hx.1]
      simp only [Rows.uptoBulk]
      have := bulks.len_le (H := H) (lits .i64 (zs.take n))
      have hl2 : (lits (H := H) .i64 (zs.take n)).length = n := by simp [lits]; omega
      omega
end Go.Proofs.YtkndmjhiijgmbaaGreatDoor
