/- Buffers: a cell that holds a slice of bytes of the call's own; many buffers beside one another. Whatever the program. -/
import Derived.WalkKit
import Derived.Laws.BytesArg
import Derived.OwnWalk
import Derived.Deep.AppendLies
import Derived.Lib.AppendStr
namespace Go.Proofs.YtnodjcapclkmhaaDoor
open Go.RowKit

/-- v owns the bytes xs in a block from base on. -/
def ownsB (w : World) (base : Nat) (e : TypeId) (v : Value) (xs : List Int) : Prop := w.ownsRow base e 1 v xs.length (xs.map (Value.int .u8))

/-- The block g (from B on) is one cell of type t; it holds a slice that owns the bytes xs; r is the slice's block. -/
def Buf (w : World) (B g : Nat) (t e : TypeId) (xs : List Int) (r : Option Nat) : Prop :=
  ∃ v, w.heap[g]? = some (.cells #[v] t (0, 0)) ∧ B ≤ g ∧ ownsB w B e v xs ∧ v.ownBlock = r ∧ r ≠ some g

/-- What a write to the buffer (g, r) leaves: all other blocks as they were; the new row is the old one or new. -/
structure Wrote (w w' : World) (g : Nat) (r r' : Option Nat) : Prop where
  os : w'.os = w.os
  tape : w'.tape = w.tape
  output : w'.output = w.output
  size : w.heap.size ≤ w'.heap.size
  block : ∀ k, k < w.heap.size → k ≠ g → some k ≠ r → w'.heap[k]? = w.heap[k]?
  row : r' = r ∨ ∃ k, r' = some k ∧ w.heap.size ≤ k

theorem Wrote.refl (w : World) (g : Nat) (r : Option Nat) : Wrote w w g r r := ⟨rfl, rfl, rfl, Nat.le_refl _, fun _ _ _ _ => rfl, .inl rfl⟩
theorem Wrote.trans {w w1 w2 : World} {g : Nat} {r r1 r2 : Option Nat} (h : Wrote w w1 g r r1) (k : Wrote w1 w2 g r1 r2) : Wrote w w2 g r r2 := by
  refine ⟨k.os.trans h.os, k.tape.trans h.tape, k.output.trans h.output, Nat.le_trans h.size k.size, fun i hi hg hr => ?_, ?_⟩
  · refine (k.block i (Nat.lt_of_lt_of_le hi h.size) hg ?_).trans (h.block i hi hg hr)
    rcases h.row with e | ⟨j, e, hj⟩
    · rw [e]; exact hr
    · rw [e]; intro e2; have := Option.some.inj e2; omega
  · rcases k.row with e | ⟨j, e, hj⟩
    · rw [e]; exact h.row
    · exact .inr ⟨j, e, Nat.le_trans h.size hj⟩
theorem Wrote.below {w w' : World} {B g : Nat} {r r' : Option Nat} (h : Wrote w w' g r r') (hB : B ≤ w.heap.size) (hg : B ≤ g) (hr : ∀ k, r = some k → B ≤ k) : Below B w w' :=
  ⟨h.os, h.tape, h.output, h.size, fun k hk => h.block k (by omega) (by omega) (fun e => by have := hr k e.symm; omega)⟩

theorem Buf.cell {w : World} {B g : Nat} {t e : TypeId} {xs : List Int} {r : Option Nat} (h : Buf w B g t e xs r) : ∃ v, w.cell? ⟨g, 0, none⟩ = some v ∧ w.frozen? ⟨g, 0, none⟩ = false ∧ ownsB w B e v xs ∧ v.ownBlock = r := by
  obtain ⟨v, h1, h2, h3, h4, h5⟩ := h
  exact ⟨v, by simp [World.cell?, h1], by simp [World.frozen?, h1], h3, h4⟩
theorem Buf.lt {w : World} {B g : Nat} {t e : TypeId} {xs : List Int} {r : Option Nat} (h : Buf w B g t e xs r) : B ≤ g ∧ g < w.heap.size ∧ ∀ k, r = some k → B ≤ k ∧ k < w.heap.size := by
  obtain ⟨v, h1, h2, h3, rfl, h5⟩ := h
  refine ⟨h2, ?_, fun k hk => World.ownsRow.lt h3 k hk⟩
  rcases Nat.lt_or_ge g w.heap.size with h | h
  · exact h
  · rw [Array.getElem?_eq_none h] at h1; cases h1

/-- The append's law, then the store: what they leave. -/
theorem Buf.step {w w1 : World} {B g : Nat} {t e : TypeId} {ys : List Int} {v v' : Value} {r q : Option Nat} (hg : w.heap[g]? = some (.cells #[v] t (0, 0))) (hB : B ≤ g) (hne : r ≠ some g)
    (ho : ownsB w1 B e v' ys) (hgr : w.grownBy w1 r) (hv : v'.ownBlock = q) (hat : q = r ∨ ∃ k, q = some k ∧ w.heap.size ≤ k) :
    Buf (w1.setCell ⟨g, 0, none⟩ v') B g t e ys q ∧ Wrote w (w1.setCell ⟨g, 0, none⟩ v') g r q := by
  have hlt : g < w.heap.size := by
    rcases Nat.lt_or_ge g w.heap.size with h | h
    · exact h
    · rw [Array.getElem?_eq_none h] at hg; cases hg
  have hgk : q ≠ some g := by
    rcases hat with h | ⟨k, h, hk⟩
    · rw [h]; exact hne
    · rw [h]; intro e; have := Option.some.inj e; omega
  have hg1 : w1.heap[g]? = some (.cells #[v] t (0, 0)) := (hgr.block g hlt (fun e => hne e.symm)).trans hg
  have hset : (w1.setCell ⟨g, 0, none⟩ v').heap[g]? = some (.cells #[v'] t (0, 0)) := by
    show (w1.heap.modify g _)[g]? = _
    rw [Array.getElem?_modify, if_pos rfl, hg1]
    rfl
  have hoth : ∀ i, i ≠ g → (w1.setCell ⟨g, 0, none⟩ v').heap[i]? = w1.heap[i]? := fun i hi => Below.heap_setCell w1 ⟨g, 0, none⟩ v' i hi
  have hsz : (w1.setCell ⟨g, 0, none⟩ v').heap.size = w1.heap.size := by simp [World.setCell]
  refine ⟨⟨v', hset, hB, ?_, hv, hgk⟩, ⟨hgr.os, hgr.tape, hgr.output, by rw [hsz]; exact hgr.size, fun i hi hig hir => ?_, hat⟩⟩
  · unfold ownsB
    exact World.ownsRow.kept (row := some g) ho ⟨rfl, rfl, rfl, by rw [hsz]; exact Nat.le_refl _, fun i _ hi => hoth i (fun e => hi (by rw [e]))⟩ (.inr (by rw [hv]; exact hgk))
  · rw [hoth i hig]
    exact hgr.block i hi hir

/-- A buffer opened for an append and a store. -/
theorem Buf.opened {w : World} {B g : Nat} {t e : TypeId} {xs : List Int} {r : Option Nat} (h : Buf w B g t e xs r) :
    ∃ v, w.cell? ⟨g, 0, none⟩ = some v ∧ w.frozen? ⟨g, 0, none⟩ = false ∧ ownsB w B e v xs ∧ v.ownBlock = r ∧
      ∀ q v' w1 ys, ownsB w1 B e v' ys → w.grownBy w1 r → v'.ownBlock = q → (q = r ∨ ∃ k, q = some k ∧ w.heap.size ≤ k) →
        w1.cell? ⟨g, 0, none⟩ = some v ∧ w1.frozen? ⟨g, 0, none⟩ = false ∧ Buf (w1.setCell ⟨g, 0, none⟩ v') B g t e ys q ∧ Wrote w (w1.setCell ⟨g, 0, none⟩ v') g r q := by
  have hlt := h.lt.2.1
  obtain ⟨v, h1, h2, h3, h4, h5⟩ := h
  refine ⟨v, by simp [World.cell?, h1], by simp [World.frozen?, h1], h3, h4, fun q v' w1 ys ho hg hv hat => ?_⟩
  have hg1 : w1.heap[g]? = some (.cells #[v] t (0, 0)) := (hg.block g hlt (fun e => h5 e.symm)).trans h1
  have := Buf.step (e := e) h1 h2 h5 ho hg hv hat
  exact ⟨by simp [World.cell?, hg1], by simp [World.frozen?, hg1], this.1, this.2⟩

/-- Two buffers that share nothing. -/
def Apart (g : Nat) (r : Option Nat) (h : Nat) (q : Option Nat) : Prop := g ≠ h ∧ r ≠ some h ∧ q ≠ some g ∧ (q = none ∨ q ≠ r)
theorem Apart.symm {g h : Nat} {r q : Option Nat} (a : Apart g r h q) : Apart h q g r := ⟨a.1.symm, a.2.2.1, a.2.1, by
  rcases a.2.2.2 with e | e
  · cases r with
    | none => exact .inl rfl
    | some k => exact .inr (by rw [e]; exact fun h => by cases h)
  · exact .inr (fun h => e h.symm)⟩
/-- A write to one buffer leaves the other, and they stay apart. -/
theorem Buf.other {w w' : World} {B g h : Nat} {t e : TypeId} {ys : List Int} {r r' q : Option Nat} (hb : Buf w B h t e ys q) (hw : Wrote w w' g r r') (ha : Apart g r h q) : Buf w' B h t e ys q ∧ Apart g r' h q := by
  obtain ⟨h1, h2, h3⟩ := hb.lt
  obtain ⟨v, k1, k2, k3, k4, k5⟩ := hb
  have hq : ∀ k, q = some k → w'.heap[k]? = w.heap[k]? := fun k hk => hw.block k (h3 k hk).2 (fun e => ha.2.2.1 (by rw [hk, e])) (fun e => by
    rcases ha.2.2.2 with e2 | e2
    · rw [e2] at hk; cases hk
    · exact e2 (by rw [hk, e]))
  refine ⟨⟨v, (hw.block h h2 ha.1.symm (fun e => ha.2.1 e.symm)).trans k1, k2, ?_, k4, k5⟩, ?_⟩
  · refine ⟨k3.1, ?_⟩
    rcases k3.2 with hn | ⟨gg, cap, cur, rfl, hb, hgg, rest⟩
    · exact .inl hn
    · exact .inr ⟨gg, cap, cur, rfl, hb, (hq gg k4.symm).trans hgg, rest⟩
  · rcases hw.row with e | ⟨k, e, hk⟩
    · rw [e]; exact ha
    · subst e
      refine ⟨ha.1, fun e => by have := Option.some.inj e; omega, ha.2.2.1, ?_⟩
      cases q with
      | none => exact .inl rfl
      | some j => exact .inr (fun e => by have := Option.some.inj e; have := (h3 j rfl).2; omega)

section
variable {P : Program} {w : World} {ops : Array Oper} {rest : List Oper} {o : Oper} {a : Act} {Q : Exit → Act → World → Prop}

/-- One byte behind. -/
theorem append_one (hgd : o.guard = none) (s x : Operand) (t : TypeId)
    (ho : o.op = .call { callee := .builtin .append, args := #[s, x], argTypes := #[t, t] })
    (B : Nat) (e : TypeId) (ht : P.underlying t = some (.slice e)) (hi : (P.info? e).map (fun i => (i.zero, i.size, i.bytes)) = some (some (.int .u8 0), 1, 1))
    (v : Value) (xs : List Int) (hs : a.eval s = v) (hown : ownsB w B e v xs) (b : Int) (hx : a.eval x = .slice (some ⟨w.heap.size, 0, none⟩) 1 1)
    (hlen : xs.length + 1 ≤ 140737488355328) (hbase : B ≤ w.heap.size)
    (h : ∀ k cap w', ownsB w' B e (.slice (some ⟨k, 0, none⟩) (xs.length + 1) cap) (xs ++ [b]) → w.grownBy w' v.ownBlock → (some k = v.ownBlock ∨ ∃ j, some k = some j ∧ w.heap.size ≤ j) → wpList P ops Q rest (a.put o.dst (.slice (some ⟨k, 0, none⟩) (xs.length + 1) cap)) w') :
    wpList P ops Q (o :: rest) a (w.alloc (.cells #[.int .u8 b] e)) := by
  obtain ⟨i0, hi0, hz0, hz1, hz2⟩ := info_parts hi
  refine wpList_append_lies _ hgd s x t ho B e i0 (.int .u8 0) 1 1 ht hi0 hz0 hz1 hz2 rfl (by decide) v xs.length (xs.map (Value.int .u8)) hs (World.ownsRow.alloc hown _) ⟨w.heap.size, 0, none⟩ 1 1 [.int .u8 b] hx rfl (cell_one_new w (.int .u8 b) e) ?_ (by omega) ?_ (by omega) (by simp; omega) _ rfl ?_
  · intro u hu; simp at hu; subst hu; rfl
  · unfold maxLen; omega
  · intro k cap w' h1 hg hat _
    refine h k cap w' ?_ (World.grownBy.trans (World.grownBy_alloc w _ _) hg) ?_
    · unfold ownsB
      simpa using h1
    · rcases hat with h | h
      · exact .inl h.symm
      · exact .inr ⟨k, rfl, by rw [h]; simp⟩

theorem run_append_string_at (B : Nat) (t ty e u : TypeId) (ht : P.underlying t = some (.slice e)) (hu : P.underlying u = some .string) (hi : (P.info? e).map (fun i => (i.zero, i.size, i.bytes)) = some (some (.int .u8 0), 1, 1))
    (v : Value) (xs : List Int) (hown : ownsB w B e v xs) (s : ByteArray) (hlen : xs.length + s.size ≤ 140737488355328) (hbase : B ≤ w.heap.size) :
    ∃ v' w', (Builtin.append_ #[t, u] ty #[v, .string s]).run P w = .ok v' w' ∧ ownsB w' B e v' (xs ++ s.data.toList.map fun b => (b.toNat : Int)) ∧ w.grownBy w' v.ownBlock ∧ (v'.ownBlock = v.ownBlock ∨ v'.ownBlock = some w.heap.size) := by
  obtain ⟨i0, hi0, hz0, hz1, hz2⟩ := info_parts hi
  obtain ⟨v', w', hr, h2, h3, h4⟩ := Lib.run_append_own_string (P := P) w B t u ty e i0 ht hu hi0 hz0 hz1 hz2 v xs.length _ hown s (by unfold maxLen; omega) hlen hbase
  refine ⟨v', w', hr, ?_, h3, ?_⟩
  · unfold ownsB
    have : (xs ++ s.data.toList.map fun b => (b.toNat : Int)).length = xs.length + s.size := by
      rw [List.length_append, List.length_map, Array.length_toList]; rfl
    rw [this, List.map_append, List.map_map]
    exact h2
  · have hxl : (xs.map (Value.int .u8)).length = xs.length := List.length_map ..
    rcases hown.2 with ⟨rfl, h0⟩ | ⟨g, cap, cur, rfl, hbg, hg, hnc, hcm, hcs, htake⟩
    · by_cases hm : s.size = 0
      · have := h4.2 ⟨rfl, hm⟩
        subst this
        exact .inl rfl
      · have hr2 := run_append_nil_string (P := P) w t u ty e i0 (.int .u8 0) ht hu hi0 hz0 s (by omega) (by omega) (by rw [hz2]; omega)
        rw [hr2] at hr
        obtain ⟨e1, _⟩ := Result.ok.inj hr
        rw [← e1]
        exact .inr rfl
    · by_cases hroom : xs.length + s.size ≤ cap
      · have hr2 := Lib.run_append_room_string (P := P) w t u ty e i0 ht hu hi0 hz1 g xs.length cap cur hg s hroom (by omega)
        rw [hr2] at hr
        obtain ⟨e1, _⟩ := Result.ok.inj hr
        rw [← e1]
        exact .inl rfl
      · have hr2 := Lib.run_append_grow_string (P := P) w t u ty e i0 (.int .u8 0) ht hu hi0 hz0 ⟨g, 0, none⟩ xs.length cap (xs.map (Value.int .u8)) (by rw [hz1, hxl]; omega) (World.ownsRow.cells hown rfl) s (by omega) (by omega) (by rw [hz2]; exact growslice_fits (by omega) (by omega))
        rw [hr2] at hr
        obtain ⟨e1, _⟩ := Result.ok.inj hr
        rw [← e1]
        exact .inr rfl

/-- A string behind. -/
theorem append_text (hgd : o.guard = none) (sl x : Operand) (t u : TypeId)
    (ho : o.op = .call { callee := .builtin .append, args := #[sl, x], argTypes := #[t, u] })
    (B : Nat) (e : TypeId) (ht : P.underlying t = some (.slice e)) (hu : P.underlying u = some .string) (hi : (P.info? e).map (fun i => (i.zero, i.size, i.bytes)) = some (some (.int .u8 0), 1, 1))
    (v : Value) (xs : List Int) (hs : a.eval sl = v) (hown : ownsB w B e v xs) (s : ByteArray) (hx : a.eval x = .string s)
    (hlen : xs.length + s.size ≤ 140737488355328) (hbase : B ≤ w.heap.size)
    (h : ∀ v' w', ownsB w' B e v' (xs ++ s.data.toList.map fun b => (b.toNat : Int)) → w.grownBy w' v.ownBlock → (v'.ownBlock = v.ownBlock ∨ ∃ k, v'.ownBlock = some k ∧ w.heap.size ≤ k) → wpList P ops Q rest (a.put o.dst v') w') :
    wpList P ops Q (o :: rest) a w := by
  refine wpList_plain hgd fun K hK => ?_
  obtain ⟨v', w', hr, h2, h3, h4⟩ := run_append_string_at (P := P) (w := w) B t o.type e u ht hu hi v xs hown s hlen hbase
  unfold Oper.wp execOp
  simp only [ho, resolve, invoke, builtin, Sem.run_bind, Sem.run_pure, Result.andThen_ok, List.map_toArray, List.map_cons, List.map_nil, hs, hx, hr]
  exact hK _ _ (h v' w' h2 h3 (h4.imp id fun h => ⟨_, h, Nat.le_refl _⟩))
end
end Go.Proofs.YtnodjcapclkmhaaDoor
