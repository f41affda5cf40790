/- remitlaw28.copies: walked. -/
import Derived.Test.YtodekiimkbejnaaGreatDoorCop
import Derived.Test.YtodekiimkbejnaaGreatDoorJoinsP
import Derived.BigRegion
import Derived.Test.YtodekiimkbejnaaGreatDoorHeldE
namespace Go.Proofs.YtodekiimkbejnaaGreatDoor
open Go.RowKit Go.WideMaps Go.Maps

/-- The cells of the first k postings. -/
def postsL (qs : Nat → PostV) : Nat → List Value
  | 0 => []
  | k + 1 => postsL qs k ++ [.string (qs k).id, .int .i64 (qs k).tick, .string (qs k).note, .slice (qs k).A (qs k).n (qs k).c]
theorem at1 (w : World) : (w.drew.alloc (.cells #[] 37)).heap[w.heap.size]? = some (.cells #[] 37 (0, 0)) := heap_alloc_new w.drew _
theorem at2 (w : World) (o : Obj) : ((w.drew.alloc (.cells #[] 37)).alloc o).heap[w.heap.size]? = some (.cells #[] 37 (0, 0)) :=
  ((Below.new _ o).block _ (by simp)).trans (at1 w)
theorem at3 (w : World) (o : Obj) : ((w.drew.alloc o).alloc (.cells #[] 37)).heap[w.heap.size + 1]? = some (.cells #[] 37 (0, 0)) := by
  have h := heap_alloc_new (w.drew.alloc o) (.cells #[] 37)
  rwa [show (w.drew.alloc o).heap.size = w.heap.size + 1 by simp] at h
theorem bl1 (w : World) (o : Obj) : Below w.heap.size w (w.drew.alloc o) := (Below.refl _ w).drew.trans (Below.new w.drew o)
theorem bl2 (w : World) (o p : Obj) : Below w.heap.size w ((w.drew.alloc o).alloc p) := (bl1 w o).trans ((Below.new _ p).mono (by simp))
theorem at4 (w : World) (o : Obj) (cs : Array Value) (t : TypeId) : ((w.drew.alloc o).alloc (.cells cs t)).heap[w.heap.size + 1]? = some (.cells cs t (0, 0)) := by
  have h := heap_alloc_new (w.drew.alloc o) (.cells cs t)
  rwa [show (w.drew.alloc o).heap.size = w.heap.size + 1 by simp] at h
theorem at5 (w : World) (p : Obj) (cs : Array Value) (t : TypeId) : ((w.drew.alloc (.cells cs t)).alloc p).heap[w.heap.size]? = some (.cells cs t (0, 0)) :=
  ((Below.new _ p).block _ (by simp)).trans (heap_alloc_new w.drew _)
theorem bl_grow {B h : Nat} {w W w' : World} (hb : Below B w W) (hg : W.grownBy w' (some h)) (hh : B ≤ h) (hB : B ≤ W.heap.size) : Below B w w' :=
  hb.trans ⟨hg.os, hg.tape, hg.output, hg.size, fun k hk => hg.block k (by omega) (by simp; omega)⟩
theorem row_cap {w : World} {B g n cap z : Nat} {e : TypeId} {xs : List Value} (h : w.ownsRow B e z (.slice (some ⟨g, 0, none⟩) n cap) n xs) : n ≤ cap ∧ B ≤ g ∧ g < w.heap.size := by
  rcases h.2 with ⟨h, _⟩ | ⟨g', cap', cur, h, hb, hg, hn, _⟩
  · cases h
  · cases h
    refine ⟨hn, hb, ?_⟩
    rcases Nat.lt_or_ge g w.heap.size with hlt | hge
    · exact hlt
    · rw [Array.getElem?_eq_none hge] at hg; cases hg

def spare : List Value := [.string ⟨#[115, 112, 97, 114, 101]⟩, .int .i64 0]
/-- Between the rounds. -/
structure Cp (N : Nat) (ps : Nat → PostV) (w wr : World) (vo : Value) (k : Nat) (qs : Nat → PostV) : Prop where
  own : wr.ownsRow N 35 4 vo k (postsL qs k)
  alike : ∀ i, i < k → Alike (ps i) (qs i)
  legs : ∀ i, i < k → ∃ g, (qs i).A = some ⟨g, 0, none⟩ ∧ N < g ∧ vo.ownBlock ≠ some g ∧ wr.ownsRow N 37 2 (.slice (some ⟨g, 0, none⟩) ((qs i).n + 1) (qs i).c) ((qs i).n + 1) (legsL (qs i).lg (qs i).n ++ spare)
  low : w.heap.size ≤ N ∧ N < wr.heap.size
  bel : Below w.heap.size w wr


theorem ownsRow_of_block {w w' : World} {B z n : Nat} {e : TypeId} {v : Value} {xs : List Value} (h : w.ownsRow B e z v n xs) (hb : ∀ g, v.ownBlock = some g → w'.heap[g]? = w.heap[g]?) : w'.ownsRow B e z v n xs := by
  refine ⟨h.1, ?_⟩
  rcases h.2 with h | ⟨g, cap, cur, rfl, h1, h2, r⟩
  · exact .inl h
  · exact .inr ⟨g, cap, cur, rfl, h1, (hb g rfl).trans h2, r⟩
theorem postsL_congr {qs rs : Nat → PostV} : ∀ k, (∀ i, i < k → qs i = rs i) → postsL qs k = postsL rs k
  | 0, _ => rfl
  | k + 1, h => by
    have e := h k (by omega)
    simp only [postsL, postsL_congr k (fun i hi => h i (by omega)), e]
theorem Cp.step {N k g2 cap2 g7 cap7 m : Nat} {ps qs : Nat → PostV} {w wr w4 w7 : World} {vo : Value} {c : Array Value} {p : PostV} (h : Cp N ps w wr vo k qs) (hm : p.n = m) (ha : Alike (ps k) p) (hA : p.A = some ⟨g2, 0, none⟩) (hc : p.c = cap2)
    (hb : Below (wr.heap.size + 1) (wr.alloc (.cells c 35)) w4) (hr : w4.ownsRow (wr.heap.size + 1) 37 2 (.slice (some ⟨g2, 0, none⟩) (m + 1) cap2) (m + 1) (legsL p.lg m ++ spare)) (u : Value)
    (ho : w7.ownsRow N 35 4 (.slice (some ⟨g7, 0, none⟩) (k + 1) cap7) (k + 1) (postsL qs k ++ [.string p.id, .int .i64 p.tick, .string p.note, .slice (some ⟨g2, 0, none⟩) m cap2]))
    (hg : (w4.setCell ⟨wr.heap.size, 3, none⟩ u).grownBy w7 vo.ownBlock) (hat : vo.ownBlock = some g7 ∨ w4.heap.size ≤ g7) :
    Cp N ps w w7 (.slice (some ⟨g7, 0, none⟩) (k + 1) cap7) (k + 1) (fun i => if i = k then p else qs i) := by
  obtain ⟨l1, l2⟩ := h.low
  have hz : (wr.alloc (.cells c 35)).heap.size = wr.heap.size + 1 := by simp
  have hs4 := hb.size
  rw [hz] at hs4
  have hz5 : (w4.setCell ⟨wr.heap.size, 3, none⟩ u).heap.size = w4.heap.size := by simp [World.setCell]
  have keep5 : ∀ b, b < wr.heap.size → (w4.setCell ⟨wr.heap.size, 3, none⟩ u).heap[b]? = wr.heap[b]? := fun b hb' =>
    (Below.heap_setCell _ _ _ _ (by show b ≠ wr.heap.size; omega)).trans ((hb.block b (by omega)).trans (heap_alloc_old wr _ b hb'))
  have keep7 : ∀ b, b < wr.heap.size → vo.ownBlock ≠ some b → w7.heap[b]? = wr.heap[b]? := fun b hb' hne => (hg.block b (by rw [hz5]; omega) (fun e => hne e.symm)).trans (keep5 b hb')
  have hs7 := hg.size
  rw [hz5] at hs7
  obtain ⟨rc1, rc2, rc3⟩ := row_cap hr
  have hvo : ∀ b, vo.ownBlock = some b → N ≤ b ∧ b < wr.heap.size := h.own.lt
  refine ⟨?_, fun i hi => ?_, fun i hi => ?_, ⟨l1, by omega⟩, ?_⟩
  · show w7.ownsRow N 35 4 _ (k + 1) (postsL _ (k + 1))
    have e : postsL (fun i => if i = k then p else qs i) (k + 1) = postsL qs k ++ [.string p.id, .int .i64 p.tick, .string p.note, .slice (some ⟨g2, 0, none⟩) m cap2] := by
      simp only [postsL, ↓reduceIte, hA, hc, hm]
      rw [postsL_congr (qs := fun i => if i = k then p else qs i) (rs := qs) k (fun i hi => if_neg (by omega))]
    rw [e]; exact ho
  · by_cases e : i = k
    · subst e; simp only [↓reduceIte]; exact ha
    · simp only [if_neg e]; exact h.alike i (by omega)
  · by_cases e : i = k
    · subst e
      simp only [↓reduceIte, hc, hm]
      refine ⟨g2, hA, by omega, fun e => ?_, ?_⟩
      · obtain rfl := Option.some.inj (show some g7 = some g2 from e)
        rcases hat with h' | h'
        · have := hvo _ h'; omega
        · omega
      · refine ownsRow_of_block (ownsRow_mono hr (by omega)) fun b e => ?_
        obtain rfl := Option.some.inj (show some g2 = some b from e)
        exact (hg.block g2 (by rw [hz5]; exact rc3) (fun e => by have := hvo _ e.symm; omega)).trans (Below.heap_setCell _ _ _ _ (by show g2 ≠ wr.heap.size; omega))
    · simp only [if_neg e]
      obtain ⟨g, e1, e2, e3, e4⟩ := h.legs i (by omega)
      have := row_cap e4
      refine ⟨g, e1, e2, fun e => ?_, ownsRow_of_block e4 fun b e => ?_⟩
      · obtain rfl := Option.some.inj (show some g7 = some g from e)
        rcases hat with h' | h'
        · exact e3 h'
        · omega
      · obtain rfl := Option.some.inj (show some g = some b from e)
        exact keep7 g (by omega) e3
  · refine h.bel.trans ⟨?_, ?_, ?_, by omega, fun b hb' => keep7 b (by omega) (fun e => by have := hvo _ e; omega)⟩
    · exact hg.os.trans (by show w4.os = wr.os; exact hb.os)
    · exact hg.tape.trans (by show w4.tape = wr.tape; exact hb.tape)
    · exact hg.output.trans (by show w4.output = wr.output; exact hb.output)

theorem block5 {w4 : World} {b : Nat} {v0 v1 v2 v3 u : Value} (h : w4.heap[b]? = some (.cells #[v0, v1, v2, v3] 35 (0, 0))) : (w4.setCell ⟨b, 3, none⟩ u).heap[b]? = some (.cells #[v0, v1, v2, u] 35 (0, 0)) :=
  heap_setCell_same w4 b 3 _ 35 u h
theorem info35 : (Tryz.prog.info? 35).map (fun i => (i.zero, i.size, i.bytes)) = some (some (.agg #[.string ⟨#[]⟩, .int .i64 0, .string ⟨#[]⟩, .slice none 0 0]), 4, 64) := by kernel_rfl
section
variable {w : World} {ops : Array Oper} {rest : List Oper} {o : Oper} {a : Act} {Q : Exit → Act → World → Prop}
/-- One posting behind. -/
theorem append_post (hgd : o.guard = none) (s x : Operand)
    (ho : o.op = .call { callee := .builtin .append, args := #[s, x], argTypes := #[22, 22] })
    (B n : Nat) (v : Value) (xs : List Value) (hs : a.eval s = v) (hown : w.ownsRow B 35 4 v n xs) (i1 : ByteArray) (t1 : Int) (n1 : ByteArray) (A1 : Option Addr) (m1 c1 : Nat) (hx : a.eval x = .slice (some ⟨w.heap.size, 0, none⟩) 1 1)
    (hlen : n + 1 ≤ 1099511627776) (hbase : B ≤ w.heap.size)
    (h : ∀ k cap w', w'.ownsRow B 35 4 (.slice (some ⟨k, 0, none⟩) (n + 1) cap) (n + 1) (xs ++ [.string i1, .int .i64 t1, .string n1, .slice A1 m1 c1]) → w.grownBy w' v.ownBlock → (v.ownBlock = some k ∨ w.heap.size ≤ k) → wpList Tryz.prog ops Q rest (a.put o.dst (.slice (some ⟨k, 0, none⟩) (n + 1) cap)) w') :
    wpList Tryz.prog ops Q (o :: rest) a (w.alloc (.cells #[.string i1, .int .i64 t1, .string n1, .slice A1 m1 c1] 35)) := by
  obtain ⟨i0, hi0, hz0, hz1, hz2⟩ := info_parts info35
  refine wpList_append_lies _ hgd s x 22 ho B 35 i0 _ 4 64 Tryz.underlying22 hi0 hz0 hz1 hz2 rfl (by decide) v n xs hs (World.ownsRow.alloc hown _) ⟨w.heap.size, 0, none⟩ 1 1 [.string i1, .int .i64 t1, .string n1, .slice A1 m1 c1] hx rfl (World.news_of_block (heap_alloc_new w _)) ?_ (by omega) (by unfold maxLen; omega) (by omega) (by simp; omega) _ rfl ?_
  · intro u hu
    simp at hu
    rcases hu with rfl | rfl | rfl | rfl <;> rfl
  · intro k cap w' h1 hg hat _
    refine h k cap w' h1 (World.grownBy.trans (World.grownBy_alloc w _ _) hg) ?_
    rcases hat with h | h
    · exact .inl h
    · right; rw [h]; simp
end
end Go.Proofs.YtodekiimkbejnaaGreatDoor
