/- Facts of the program that a narrowed fees law asks; the bulk of what is read (OwnS with the bulk laws; never beside OwnS). -/
import Derived.Test.YtikkocdbaekjmaaGreatDoorRows
import Derived.Test.YtikkocdbaekjmaaGreatDoorFeeB
import Derived.ProofKit
import Derived.OpenShut
import Derived.LaidMore
import Derived.Stop.LaidErr
import Derived.SizedLaws
import Derived.Deep.Slices
import Derived.Shelf.Vars
import Derived.HandedShaped
namespace Go.Proofs.YtikkocdbaekjmaaGreatDoor.bulks

theorem one_le {H : Type} (d : DataW H) : 1 ≤ Rows.uptoBulk d := by
  cases d with
  | lit l => cases l <;> simp [Rows.uptoBulk]
  | nil => simp [Rows.uptoBulk]
  | ptr d => simp [Rows.uptoBulk]
  | slice elems spare => simp [Rows.uptoBulk]
  | agg parts => simp [Rows.uptoBulk]
  | iface t d => simp [Rows.uptoBulk]
  | map entries => simp [Rows.uptoBulk]
  | held h => simp [Rows.uptoBulk]
theorem append {H : Type} (l r : List (DataW H)) : Rows.uptoBulkAll (l ++ r) = Rows.uptoBulkAll l + Rows.uptoBulkAll r := by
  induction l with
  | nil => simp [Rows.uptoBulkAll]
  | cons x l ih => simp only [List.cons_append, Rows.uptoBulkAll, ih]; omega
theorem part_le {H : Type} {d : DataW H} {l : List (DataW H)} (h : d ∈ l) : Rows.uptoBulk d ≤ Rows.uptoBulkAll l := by
  induction l with
  | nil => cases h
  | cons x r ih =>
    simp only [Rows.uptoBulkAll]
    cases List.mem_cons.1 h with
    | inl e => subst e; omega
    | inr e => have := ih e; omega
/-- The bulk of the first n. -/
def bsum {H : Type} (D : Nat → DataW H) : Nat → Nat
  | 0 => 0
  | n + 1 => bsum D n + Rows.uptoBulk (D n)
theorem all_range {H : Type} (D : Nat → DataW H) : ∀ n, Rows.uptoBulkAll ((List.range n).map D) = bsum D n
  | 0 => rfl
  | n + 1 => by
    rw [List.range_succ, List.map_append, append, all_range D n]
    simp [Rows.uptoBulkAll, bsum]
theorem bsum_ge {H : Type} (D : Nat → DataW H) : ∀ n, n ≤ bsum D n
  | 0 => Nat.le_refl _
  | n + 1 => by have := bsum_ge D n; have := one_le (D n); show _ ≤ bsum D n + _; omega
theorem bsum_at {H : Type} (D : Nat → DataW H) : ∀ n i, i < n → Rows.uptoBulk (D i) ≤ bsum D n
  | n + 1, i, h => by
    show _ ≤ bsum D n + _
    by_cases e : i = n
    · subst e; omega
    · have := bsum_at D n i (by omega); omega
theorem slice_range {H : Type} (D : Nat → DataW H) (n : Nat) (r : List (DataW H)) : bsum D n + 1 ≤ Rows.uptoBulk (.slice ((List.range n).map D) r) := by
  simp only [Rows.uptoBulk, all_range]; omega
theorem bound {H : Type} {l : List (DataW H)} (hk : Rows.uptoSmall H l = true) : Rows.uptoBulkAll l ≤ 1048576 := by
  unfold Rows.uptoSmall at hk
  exact of_decide_eq_true hk
end Go.Proofs.YtikkocdbaekjmaaGreatDoor.bulks
namespace Go.Proofs.YtikkocdbaekjmaaGreatDoor
open Go.RowKit Go.ChangeShapes Go.WideShapes Go.ChangeAt Go.Deep
theorem star : "*" ++ "errors.errorString" = "*errors.errorString" := by decide
theorem rowE (u : TypeId) (h : Tryz.prog.typeName? 3 u = some "*errors.errorString") : u = 292 :=
  typeName_ptr_named (nm := "errors.errorString") (by rw [star]; kernel_rfl) (by kernel_rfl) (by decide) u (by rw [star]; exact h)
theorem errTypes : ErrTypes Tryz.prog 27 292 := by
  refine ⟨313, 9, _, _, Tryz.underlying27, rowE, Tryz.underlying292, Tryz.underlying313, ?_, ?_, Tryz.underlying9, by kernel_rfl, by kernel_rfl⟩
  · rfl
  · rfl
theorem own : ownKnob Tryz.prog.godebug = none := by kernel_rfl
theorem laidOut : laidOutB Tryz.prog = true := by kernel_rfl
theorem gPow : Tryz.prog.globalNamed "internal/strconv.uint64pow10" = some 43 := by kernel_rfl
theorem tPow : (Tryz.prog.globals[43]?).map (·.type) = some 145 := by kernel_rfl
theorem cells35 : Tryz.prog.cellsOf 35 = 3 := by kernel_rfl
theorem cells25 : Tryz.prog.cellsOf 25 = 3 := by kernel_rfl
theorem cells23 : Tryz.prog.cellsOf 23 = 1 := by kernel_rfl
theorem cells3 : Tryz.prog.cellsOf 3 = 1 := by kernel_rfl
theorem cells2 : Tryz.prog.cellsOf 2 = 1 := by kernel_rfl
theorem at_of_add {x : Addr} {g o : Nat} (hx : x = ⟨g, o, none⟩) (i : Nat) : x.add i = ⟨g, o + i, none⟩ := by
  subst hx; unfold Addr.add; split <;> simp_all
theorem list3 {α : Type} {l : List α} (h : l.length = 3) : ∃ a b c, l = [a, b, c] := by
  match l, h with
  | [a, b, c], _ => exact ⟨a, b, c, rfl⟩
theorem choose_of {α : Type} (x0 : α) {n : Nat} {p : Nat → α → Prop} (h : ∀ i, i < n → ∃ x, p i x) : ∃ f : Nat → α, ∀ i, i < n → p i (f i) := by
  classical
  refine ⟨fun i => if hi : i < n then Classical.choose (h i hi) else x0, fun i hi => ?_⟩
  simp only [dif_pos hi]
  exact Classical.choose_spec (h i hi)
section
variable {H : Type} {enc : TypeId × Value → H} {w : World} {held : Bool}
theorem open_tier {fuel : Nat} {cs : List Value} {x : DataW H × List MemPlace} (h : DataW.trod enc Tryz.prog w 0 (fun _ => true) held fuel 35 cs = some x) :
    ∃ l : Tier, cs = [.int .i64 l.fr, .int .i64 l.fl, .int .i64 l.rt] := by
  obtain ⟨xs, n, _, rfl, hl, hlen, hf⟩ := DataW.trod_struct Tryz.underlying35 h
  rw [cells35] at hl
  obtain ⟨c0, c1, c2, rfl⟩ := list3 hl
  obtain ⟨y0, y1, y2, rfl⟩ := list3 (hlen.trans rfl)
  have t0 : DataW.trod enc Tryz.prog w 0 (fun _ => true) held n 2 (([c0, c1, c2].drop 0).take (Tryz.prog.cellsOf 2)) = some y0 := hf 0 _ rfl
  have t1 : DataW.trod enc Tryz.prog w 0 (fun _ => true) held n 2 (([c0, c1, c2].drop 1).take (Tryz.prog.cellsOf 2)) = some y1 := hf 1 _ rfl
  have t2 : DataW.trod enc Tryz.prog w 0 (fun _ => true) held n 3 (([c0, c1, c2].drop 2).take (Tryz.prog.cellsOf 3)) = some y2 := hf 2 _ rfl
  rw [cells2] at t0 t1
  rw [cells3] at t2
  clear hf hlen hl h
  obtain ⟨i0, e0, rfl, w0⟩ := DataW.trod_int Tryz.underlying2 t0
  obtain ⟨i1, e1, rfl, w1⟩ := DataW.trod_int Tryz.underlying2 t1
  obtain ⟨i2, e2, rfl, w2⟩ := DataW.trod_int Tryz.underlying3 t2
  simp only [List.drop, List.take, List.cons.injEq, and_true] at e0 e1 e2
  subst e0 e1 e2
  exact ⟨⟨i0, i1, i2⟩, rfl⟩
set_option maxRecDepth 100000 in
theorem open_tiers {A : Option Addr} {n c : Nat} {fuel : Nat} {x : DataW H × List MemPlace} (h : DataW.trod enc Tryz.prog w 0 (fun _ => true) held fuel 23 [.slice A n c] = some x) :
    ∃ t, Tiers w A n t := by
  rcases open_slice Tryz.underlying23 h with ⟨hcs, hx⟩ | ⟨a, len, cap, m, f, D, Pl, hcs, _, hl, hm, hmm, hx, hel⟩
  · simp at hcs
    obtain ⟨rfl, rfl, rfl⟩ := hcs
    exact ⟨fun _ => ⟨0, 0, 0⟩, .inl rfl⟩
  · simp at hcs
    obtain ⟨rfl, rfl, rfl⟩ := hcs
    have each : ∀ i, i < n → ∃ l : Tier, w.cells? 0 (a.add (i * 3)) 3 = some [.int .i64 l.fr, .int .i64 l.fl, .int .i64 l.rt] := fun i hi => by
      obtain ⟨cs', h1, h2⟩ := hel i (by split at hmm <;> omega)
      rw [cells35] at h1
      obtain ⟨l, rfl⟩ := open_tier h2
      exact ⟨l, h1⟩
    obtain ⟨t, ho⟩ := choose_of (⟨0, 0, 0⟩ : Tier) each
    refine ⟨t, ?_⟩
    rcases Nat.eq_zero_or_pos n with h0 | hn
    · exact .inl h0
    have hc0 := (World.cells?_some (ho 0 hn)).2.2 0 (by decide)
    rw [Nat.zero_mul] at hc0
    obtain ⟨g, o, spot⟩ := a
    have hspot : spot = none := by simpa [Addr.add] using World.cell?_spot (hc0.trans rfl)
    subst hspot
    refine .inr ⟨g, o, rfl, World.block_lt_of_cell? w ⟨g, o, none⟩ (by simpa [Addr.add] using hc0), fun i hi => ?_⟩
    have hcell := (World.cells?_some (ho i hi)).2.2
    have hat : ∀ j, j < 3 → w.cell? ⟨g, o + i * 3 + j, none⟩ = [Value.int .i64 (t i).fr, .int .i64 (t i).fl, .int .i64 (t i).rt][j]? := fun j hj => by
      have := hcell j hj
      rwa [at_of_add rfl, at_of_add rfl] at this
    exact ⟨hat 0 (by decide), hat 1 (by decide), hat 2 (by decide)⟩
set_option maxRecDepth 100000 in
theorem open_fees {v : Value} {d : DataW H} {p : List MemPlace} {b0 : Nat} (hv : Value.okWide Tryz.prog w .any b0 25 v) (h : DataW.Trod enc Tryz.prog w 0 (fun _ => true) held 25 v d p) :
    ∃ A n c t l m, v = feeV A n c l m ∧ Tiers w A n t := by
  obtain ⟨cs, rfl, hsz⟩ := okWide_struct Tryz.underlying25 hv
  obtain ⟨fuel, hf⟩ := h
  have hf2 : DataW.trod enc Tryz.prog w 0 (fun _ => true) held fuel 25 cs.toList = some (d, p) := hf
  obtain ⟨xs, n, _, hx, hl, hlen, hg⟩ := DataW.trod_struct Tryz.underlying25 hf2
  rw [cells25] at hl
  obtain ⟨c0, c1, c2, hcs⟩ := list3 hl
  obtain ⟨y0, y1, y2, rfl⟩ := list3 (hlen.trans rfl)
  rw [hcs] at hg
  have t0 : DataW.trod enc Tryz.prog w 0 (fun _ => true) held n 23 (([c0, c1, c2].drop 0).take (Tryz.prog.cellsOf 23)) = some y0 := hg 0 _ rfl
  have t1 : DataW.trod enc Tryz.prog w 0 (fun _ => true) held n 2 (([c0, c1, c2].drop 1).take (Tryz.prog.cellsOf 2)) = some y1 := hg 1 _ rfl
  have t2 : DataW.trod enc Tryz.prog w 0 (fun _ => true) held n 2 (([c0, c1, c2].drop 2).take (Tryz.prog.cellsOf 2)) = some y2 := hg 2 _ rfl
  rw [cells23] at t0
  rw [cells2] at t1 t2
  simp only [List.drop, List.take] at t0 t1 t2
  obtain ⟨i1, e1, rfl, w1⟩ := DataW.trod_int Tryz.underlying2 t1
  obtain ⟨i2, e2, rfl, w2⟩ := DataW.trod_int Tryz.underlying2 t2
  simp only [List.cons.injEq, and_true] at e1 e2
  subst e1 e2
  have hsl : ∃ A n c, c0 = .slice A n c := by
    rcases open_slice Tryz.underlying23 t0 with ⟨hc, _⟩ | ⟨a, len, cap, m, f, D, Pl, hc, _⟩
    · simp only [List.cons.injEq, and_true] at hc; exact ⟨_, _, _, hc⟩
    · simp only [List.cons.injEq, and_true] at hc; exact ⟨_, _, _, hc⟩
  obtain ⟨A, n', c, rfl⟩ := hsl
  obtain ⟨t, ht⟩ := open_tiers t0
  have hcs2 : cs = #[.slice A n' c, .int .i64 i1, .int .i64 i2] := by
    have : cs.toList = [.slice A n' c, .int .i64 i1, .int .i64 i2] := hcs
    rw [← Array.toArray_toList (xs := cs), this]
  subst hcs2
  exact ⟨A, n', c, t, i1, i2, rfl, ht⟩
end
end Go.Proofs.YtikkocdbaekjmaaGreatDoor
