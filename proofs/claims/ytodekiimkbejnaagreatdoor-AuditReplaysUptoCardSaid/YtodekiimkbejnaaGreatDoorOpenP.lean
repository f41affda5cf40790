/- A slice of postings that came in, opened; its bulk bounds it. -/
import Derived.Test.YtodekiimkbejnaaGreatDoorRepl
import Derived.Test.YtodekiimkbejnaaGreatDoorBulk
import Derived.ProofKit
import Derived.Deep.Slices
import Derived.SliceStrings
import Derived.OpenShut
namespace Go.Proofs.YtodekiimkbejnaaGreatDoor
open Go.ChangeShapes Go.WideShapes Go.ChangeAt Go.RowKit Go.Deep

theorem cells35 : Tryz.prog.cellsOf 35 = 4 := by kernel_rfl
theorem cells37 : Tryz.prog.cellsOf 37 = 2 := by kernel_rfl
theorem cells3 : Tryz.prog.cellsOf 3 = 1 := by kernel_rfl
theorem cells2 : Tryz.prog.cellsOf 2 = 1 := by kernel_rfl
theorem cells25 : Tryz.prog.cellsOf 25 = 1 := by kernel_rfl
theorem cells9 : Tryz.prog.cellsOf 9 = 1 := by kernel_rfl
theorem at_of_add {x : Addr} {g o : Nat} (hx : x = ⟨g, o, none⟩) (i : Nat) : x.add i = ⟨g, o + i, none⟩ := by
  subst hx; unfold Addr.add; split <;> simp_all
theorem list2 {α : Type} {l : List α} (h : l.length = 2) : ∃ a b, l = [a, b] := by
  match l, h with
  | [a, b], _ => exact ⟨a, b, rfl⟩
theorem list4 {α : Type} {l : List α} (h : l.length = 4) : ∃ a b c d, l = [a, b, c, d] := by
  match l, h with
  | [a, b, c, d], _ => exact ⟨a, b, c, d, rfl⟩
def leg0 : LegV := ⟨⟨#[]⟩, 0⟩
def post0 : PostV := ⟨⟨#[]⟩, 0, ⟨#[]⟩, none, 0, 0, fun _ => leg0⟩
theorem choose_of {α : Type} (x0 : α) {n : Nat} {p : Nat → α → Prop} (h : ∀ i, i < n → ∃ x, p i x) : ∃ f : Nat → α, ∀ i, i < n → p i (f i) := by
  classical
  refine ⟨fun i => if hi : i < n then Classical.choose (h i hi) else x0, fun i hi => ?_⟩
  simp only [dif_pos hi]
  exact Classical.choose_spec (h i hi)

section
variable {H : Type} {enc : TypeId × Value → H} {w : World} {held : Bool}

theorem open_leg {fuel : Nat} {cs : List Value} {x : DataW H × List MemPlace} (h : DataW.trod enc Tryz.prog w 0 (fun _ => true) held fuel 37 cs = some x) :
    ∃ l : LegV, cs = [.string l.a, .int .i64 l.x] ∧ l.a.size ≤ Rows.uptoBulk x.1 ∧ -9223372036854775808 ≤ l.x ∧ l.x ≤ 9223372036854775807 := by
  obtain ⟨xs, n, _, rfl, hl, hlen, hf⟩ := DataW.trod_struct Tryz.underlying37 h
  rw [cells37] at hl
  obtain ⟨c0, c1, rfl⟩ := list2 hl
  obtain ⟨y0, y1, rfl⟩ := list2 (hlen.trans rfl)
  have t0 : DataW.trod enc Tryz.prog w 0 (fun _ => true) held n 9 (([c0, c1].drop 0).take (Tryz.prog.cellsOf 9)) = some y0 := hf 0 _ rfl
  rw [cells9] at t0
  have t1 : DataW.trod enc Tryz.prog w 0 (fun _ => true) held n 2 (([c0, c1].drop 1).take (Tryz.prog.cellsOf 2)) = some y1 := hf 1 _ rfl
  rw [cells2] at t1
  clear hf hlen hl h
  obtain ⟨s, e0, rfl, w0⟩ := DataW.trod_string Tryz.underlying9 t0
  obtain ⟨i, e1, rfl, w1⟩ := DataW.trod_int Tryz.underlying2 t1
  simp only [List.drop, List.take, List.cons.injEq, and_true] at e0 e1
  subst e0 e1
  obtain ⟨i0, i1⟩ := bounds_i64 w1
  refine ⟨⟨s, i⟩, rfl, ?_, i0, i1⟩
  have h3 : s.data.toList.length = s.size := Array.length_toList
  simp only [List.map, Rows.uptoBulk, Rows.uptoBulkAll, h3]
  omega

theorem open_legs {fuel : Nat} {cs : List Value} {x : DataW H × List MemPlace} (h : DataW.trod enc Tryz.prog w 0 (fun _ => true) held fuel 25 cs = some x) (hk : Rows.uptoBulk x.1 ≤ 1048576) :
    ∃ (A : Option Addr) (n c : Nat) (lg : Nat → LegV), cs = [.slice A n c] ∧ LegsAt w A n lg ∧ n ≤ 1048576 ∧ (0 < n → ∀ a, A = some a → a.block < w.heap.size) := by
  rcases open_slice Tryz.underlying25 h with ⟨hcs, hx⟩ | ⟨a, len, cap, m, f, D, Pl, hcs, _, hl, hm, hmm, hx, hel⟩
  · exact ⟨none, 0, 0, fun _ => leg0, hcs, fun h => absurd h (Nat.lt_irrefl _), by omega, fun h => absurd h (Nat.lt_irrefl _)⟩
  · simp only [if_true] at hmm
    subst hx
    have hb := bulks.slice_range D len ((List.range (m - len)).map fun j => D (len + j))
    have hn := bulks.bsum_ge D len
    have each : ∀ i, i < len → ∃ l : LegV, (w.cells? 0 (a.add (i * 2)) 2 = some [.string l.a, .int .i64 l.x]) ∧ l.a.size ≤ Rows.uptoBulk (D i) ∧ -9223372036854775808 ≤ l.x ∧ l.x ≤ 9223372036854775807 := fun i hi => by
      obtain ⟨cs', h1, h2⟩ := hel i (by omega)
      rw [cells37] at h1
      obtain ⟨l, rfl, r⟩ := open_leg h2
      exact ⟨l, h1, r⟩
    obtain ⟨lg, ho⟩ := choose_of leg0 each
    have main : 0 < len → ∃ g o, a = ⟨g, o, none⟩ ∧ g < w.heap.size := fun hn0 => by
      have hc0 := (World.cells?_some (ho 0 hn0).1).2.2 0 (by decide)
      rw [Nat.zero_mul] at hc0
      obtain ⟨g, o, spot⟩ := a
      have hspot : spot = none := by simpa [Addr.add] using World.cell?_spot (hc0.trans rfl)
      subst hspot
      exact ⟨g, o, rfl, World.block_lt_of_cell? w ⟨g, o, none⟩ (by simpa [Addr.add] using hc0)⟩
    refine ⟨some a, len, cap, lg, hcs, fun hn0 => ?_, by simp only at hk; omega, fun hn0 a' e => ?_⟩
    · obtain ⟨g, o, rfl, hg⟩ := main hn0
      refine ⟨g, o, rfl, hg, fun i hi => ?_⟩
      obtain ⟨h1, h2, h3, h4⟩ := ho i hi
      have hcell := (World.cells?_some h1).2.2
      have hat : ∀ j, j < 2 → w.cell? ⟨g, o + i * 2 + j, none⟩ = [Value.string (lg i).a, .int .i64 (lg i).x][j]? := fun j hj => by
        have := hcell j hj
        rwa [at_of_add rfl, at_of_add rfl] at this
      have hbi := bulks.bsum_at D len i hi
      exact ⟨by have := hat 0 (by decide); rwa [Nat.add_zero] at this, hat 1 (by decide), by simp only at hk; omega, h3, h4⟩
    · obtain ⟨g, o, rfl, hg⟩ := main hn0
      obtain rfl := Option.some.inj e
      exact hg

set_option maxRecDepth 100000 in
theorem open_post {fuel : Nat} {cs : List Value} {x : DataW H × List MemPlace} (h : DataW.trod enc Tryz.prog w 0 (fun _ => true) held fuel 35 cs = some x) (hk : Rows.uptoBulk x.1 ≤ 1048576) :
    ∃ p : PostV, cs = [.string p.id, .int .i64 p.tick, .string p.note, .slice p.A p.n p.c] ∧ p.sized ∧ LegsAt w p.A p.n p.lg ∧ p.n ≤ 1048576 ∧ (0 < p.n → ∀ a, p.A = some a → a.block < w.heap.size) := by
  obtain ⟨xs, n, _, rfl, hl, hlen, hf⟩ := DataW.trod_struct Tryz.underlying35 h
  rw [cells35] at hl
  obtain ⟨c0, c1, c2, c3, rfl⟩ := list4 hl
  obtain ⟨y0, y1, y2, y3, rfl⟩ := list4 (hlen.trans rfl)
  have t0 : DataW.trod enc Tryz.prog w 0 (fun _ => true) held n 9 (([c0, c1, c2, c3].drop 0).take (Tryz.prog.cellsOf 9)) = some y0 := hf 0 _ rfl
  rw [cells9] at t0
  have t1 : DataW.trod enc Tryz.prog w 0 (fun _ => true) held n 3 (([c0, c1, c2, c3].drop 1).take (Tryz.prog.cellsOf 3)) = some y1 := hf 1 _ rfl
  rw [cells3] at t1
  have t2 : DataW.trod enc Tryz.prog w 0 (fun _ => true) held n 9 (([c0, c1, c2, c3].drop 2).take (Tryz.prog.cellsOf 9)) = some y2 := hf 2 _ rfl
  rw [cells9] at t2
  have t3 : DataW.trod enc Tryz.prog w 0 (fun _ => true) held n 25 (([c0, c1, c2, c3].drop 3).take (Tryz.prog.cellsOf 25)) = some y3 := hf 3 _ rfl
  rw [cells25] at t3
  clear hf hlen hl h
  obtain ⟨s, e0, rfl, w0⟩ := DataW.trod_string Tryz.underlying9 t0
  obtain ⟨i, e1, rfl, w1⟩ := DataW.trod_int Tryz.underlying3 t1
  obtain ⟨q, e2, rfl, w2⟩ := DataW.trod_string Tryz.underlying9 t2
  have h3 : s.data.toList.length = s.size := Array.length_toList
  have h4 : q.data.toList.length = q.size := Array.length_toList
  have hbulk : Rows.uptoBulk (DataW.agg (List.map (fun x => x.1) [(DataW.lit (Lit.string s.data.toList), []), (DataW.lit (Lit.int IntKind.i64 i), []), (DataW.lit (Lit.string q.data.toList), []), y3]) : DataW H) = s.size + q.size + Rows.uptoBulk y3.1 + 4 := by
    simp only [List.map, Rows.uptoBulk, Rows.uptoBulkAll, h3, h4]
    omega
  simp only [hbulk] at hk
  obtain ⟨A, n', c, lg, e3, hL, hn', hlt⟩ := open_legs t3 (by omega)
  simp only [List.drop, List.take, List.cons.injEq, and_true] at e0 e1 e2 e3
  subst e0 e1 e2 e3
  exact ⟨⟨s, i, q, A, n', c, lg⟩, rfl, ⟨by show s.size ≤ _; omega, by show q.size ≤ _; omega, by show n' ≤ _; omega⟩, hL, hn', hlt⟩

set_option maxRecDepth 100000 in
theorem open_posts {b0 : Nat} {v : Value} {d : DataW H} {p : List MemPlace} (hv : Value.okWide Tryz.prog w .any b0 22 v) (h : DataW.Trod enc Tryz.prog w 0 (fun _ => true) held 22 v d p) (hk : Rows.uptoBulk d ≤ 1048576) :
    ∃ (A : Option Addr) (n c : Nat) (ps : Nat → PostV), v = .slice A n c ∧ PostsAt w A n ps ∧ n ≤ 1048576 ∧ ∀ i, i < n → (ps i).n ≤ 1048576 := by
  obtain ⟨A, n, c, rfl⟩ := okWide_slice Tryz.underlying22 hv
  obtain ⟨fuel, hf⟩ := h
  rcases open_slice Tryz.underlying22 hf with ⟨hcs, hx⟩ | ⟨a, len, cap, m, f, D, Pl, hcs, _, hl, hm, hmm, hx, hel⟩
  · simp [Value.cells] at hcs
    obtain ⟨rfl, rfl, rfl⟩ := hcs
    exact ⟨none, 0, 0, fun _ => post0, rfl, fun h => absurd h (Nat.lt_irrefl _), by omega, fun i h => absurd h (Nat.not_lt_zero _)⟩
  · simp [Value.cells] at hcs
    obtain ⟨rfl, rfl, rfl⟩ := hcs
    simp only [if_true] at hmm
    simp only [Prod.mk.injEq] at hx
    obtain ⟨rfl, _⟩ := hx
    have hb := bulks.slice_range D n ((List.range (m - n)).map fun j => D (n + j))
    have hn := bulks.bsum_ge D n
    have each : ∀ i, i < n → ∃ o : PostV, (w.cells? 0 (a.add (i * 4)) 4 = some [.string o.id, .int .i64 o.tick, .string o.note, .slice o.A o.n o.c]) ∧ o.sized ∧ LegsAt w o.A o.n o.lg ∧ o.n ≤ 1048576 ∧ (0 < o.n → ∀ a, o.A = some a → a.block < w.heap.size) := fun i hi => by
      obtain ⟨cs', h1, h2⟩ := hel i (by omega)
      rw [cells35] at h1
      have hbi := bulks.bsum_at D n i hi
      obtain ⟨o, rfl, r⟩ := open_post h2 (by simp only; omega)
      exact ⟨o, h1, r⟩
    obtain ⟨ops, ho⟩ := choose_of post0 each
    refine ⟨some a, n, c, ops, rfl, fun hn0 => ?_, by omega, fun i hi => (ho i hi).2.2.2.1⟩
    have hc0 := (World.cells?_some (ho 0 hn0).1).2.2 0 (by decide)
    rw [Nat.zero_mul] at hc0
    obtain ⟨g, o, spot⟩ := a
    have hspot : spot = none := by simpa [Addr.add] using World.cell?_spot (hc0.trans rfl)
    subst hspot
    refine ⟨g, o, rfl, World.block_lt_of_cell? w ⟨g, o, none⟩ (by simpa [Addr.add] using hc0), fun i hi => ?_⟩
    obtain ⟨h1, h2, h3, h4, h5⟩ := ho i hi
    have hcell := (World.cells?_some h1).2.2
    have hat : ∀ j, j < 4 → w.cell? ⟨g, o + i * 4 + j, none⟩ = [Value.string (ops i).id, .int .i64 (ops i).tick, .string (ops i).note, .slice (ops i).A (ops i).n (ops i).c][j]? := fun j hj => by
      have := hcell j hj
      rwa [at_of_add rfl, at_of_add rfl] at this
    exact ⟨⟨by have := hat 0 (by decide); rwa [Nat.add_zero] at this, hat 1 (by decide), hat 2 (by decide), hat 3 (by decide)⟩, h2, h3, h5⟩
end
end Go.Proofs.YtodekiimkbejnaaGreatDoor
