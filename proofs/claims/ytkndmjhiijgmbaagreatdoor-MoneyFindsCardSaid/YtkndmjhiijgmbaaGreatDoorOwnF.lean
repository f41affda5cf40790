/- A list of currencies that came in. -/
import Derived.Test.YtkndmjhiijgmbaaGreatDoorOwn
import Derived.Test.YtkndmjhiijgmbaaGreatDoorFindsW
import Derived.Deep.Slices
import Derived.SliceStrings
namespace Go.Proofs.YtkndmjhiijgmbaaGreatDoor
open Go.RowKit Go.ChangeShapes Go.WideShapes Go.ChangeAt Go.Deep
theorem cells42 : Tryz.prog.cellsOf 42 = 2 := by kernel_rfl
theorem cells9 : Tryz.prog.cellsOf 9 = 1 := by kernel_rfl
theorem cells3 : Tryz.prog.cellsOf 3 = 1 := by kernel_rfl
theorem bytes42 : Tryz.prog.bytesOf 42 = 24 := by kernel_rfl
theorem at_of_add {x : Addr} {g o : Nat} (hx : x = ⟨g, o, none⟩) (i : Nat) : x.add i = ⟨g, o + i, none⟩ := by
  subst hx; unfold Addr.add; split <;> simp_all
theorem list2 {α : Type} {l : List α} (h : l.length = 2) : ∃ a b, l = [a, b] := by
  match l, h with
  | [a, b], _ => exact ⟨a, b, rfl⟩
theorem choose_of {α : Type} (x0 : α) {n : Nat} {p : Nat → α → Prop} (h : ∀ i, i < n → ∃ x, p i x) : ∃ f : Nat → α, ∀ i, i < n → p i (f i) := by
  classical
  refine ⟨fun i => if hi : i < n then Classical.choose (h i hi) else x0, fun i hi => ?_⟩
  simp only [dif_pos hi]
  exact Classical.choose_spec (h i hi)
section
variable {H : Type} {enc : TypeId × Value → H} {w : World} {held : Bool}
theorem open_cur {fuel : Nat} {cs : List Value} {x : DataW H × List MemPlace} (h : DataW.trod enc Tryz.prog w 0 (fun _ => true) held fuel 42 cs = some x) :
    ∃ l : Cur, cs = [.string l.s, .int .i64 l.d] := by
  obtain ⟨xs, n, _, rfl, hl, hlen, hf⟩ := DataW.trod_struct Tryz.underlying42 h
  rw [cells42] at hl
  obtain ⟨c0, c1, rfl⟩ := list2 hl
  obtain ⟨y0, y1, rfl⟩ := list2 (hlen.trans rfl)
  have t0 : DataW.trod enc Tryz.prog w 0 (fun _ => true) held n 9 (([c0, c1].drop 0).take (Tryz.prog.cellsOf 9)) = some y0 := hf 0 _ rfl
  rw [cells9] at t0
  have t1 : DataW.trod enc Tryz.prog w 0 (fun _ => true) held n 3 (([c0, c1].drop 1).take (Tryz.prog.cellsOf 3)) = some y1 := hf 1 _ rfl
  rw [cells3] at t1
  clear hf hlen hl h
  obtain ⟨s, e0, rfl, w0⟩ := DataW.trod_string Tryz.underlying9 t0
  obtain ⟨i, e1, rfl, w1⟩ := DataW.trod_int Tryz.underlying3 t1
  simp only [List.drop, List.take, List.cons.injEq, and_true] at e0 e1
  subst e0 e1
  exact ⟨⟨s, i⟩, rfl⟩
set_option maxRecDepth 100000 in
theorem open_curs {v : Value} {d : DataW H} {p : List MemPlace} {b0 : Nat} (hv : Value.okWide Tryz.prog w .any b0 40 v) (h : DataW.Trod enc Tryz.prog w 0 (fun _ => true) held 40 v d p)
    (hs : ∀ L R, d = .slice L R → (L.length + R.length) * Tryz.prog.bytesOf 42 ≤ reachBytes) : ∃ A n c t, v = .slice A n c ∧ Curs w A n t ∧ n * 24 ≤ 140737488355328 := by
  obtain ⟨A, n, c, rfl⟩ := okWide_slice Tryz.underlying40 hv
  obtain ⟨fuel, hf⟩ := h
  rcases open_slice Tryz.underlying40 hf with ⟨hcs, hx⟩ | ⟨a, len, cap, m, f, D, Pl, hcs, _, hl, hm, hmm, hx, hel⟩
  · simp [Value.cells] at hcs
    obtain ⟨rfl, rfl, rfl⟩ := hcs
    exact ⟨none, 0, 0, fun _ => ⟨⟨#[]⟩, 0⟩, rfl, .inl rfl, by decide⟩
  · simp [Value.cells] at hcs
    obtain ⟨rfl, rfl, rfl⟩ := hcs
    simp only [Prod.mk.injEq] at hx
    have hsz := hs _ _ hx.1
    have h47 := reachBytes_lt
    rw [bytes42] at hsz
    simp at hsz
    have each : ∀ i, i < n → ∃ l : Cur, w.cells? 0 (a.add (i * 2)) 2 = some [.string l.s, .int .i64 l.d] := fun i hi => by
      obtain ⟨cs', h1, h2⟩ := hel i (by split at hmm <;> omega)
      rw [cells42] at h1
      obtain ⟨l, rfl⟩ := open_cur h2
      exact ⟨l, h1⟩
    obtain ⟨t, ho⟩ := choose_of (⟨⟨#[]⟩, 0⟩ : Cur) each
    refine ⟨some a, n, c, t, rfl, ?_, by omega⟩
    rcases Nat.eq_zero_or_pos n with h0 | hn
    · exact .inl h0
    have hc0 := (World.cells?_some (ho 0 hn)).2.2 0 (by decide)
    rw [Nat.zero_mul] at hc0
    obtain ⟨g, o, spot⟩ := a
    have hspot : spot = none := by simpa [Addr.add] using World.cell?_spot (hc0.trans rfl)
    subst hspot
    refine .inr ⟨g, o, rfl, World.block_lt_of_cell? w ⟨g, o, none⟩ (by simpa [Addr.add] using hc0), fun i hi => ?_⟩
    have hcell := (World.cells?_some (ho i hi)).2.2
    have hat : ∀ j, j < 2 → w.cell? ⟨g, o + i * 2 + j, none⟩ = [Value.string (t i).s, .int .i64 (t i).d][j]? := fun j hj => by
      have := hcell j hj
      rwa [at_of_add rfl, at_of_add rfl] at this
    exact ⟨hat 0 (by decide), hat 1 (by decide)⟩
end
end Go.Proofs.YtkndmjhiijgmbaaGreatDoor
