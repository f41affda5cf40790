/- OwnTexts' three loops: what holds between them: plain laws. -/
import Derived.Test.YtnodjcapclkmhaaDoorGrew
import Derived.Test.YtnodjcapclkmhaaDoorMem
namespace Go.Proofs.YtnodjcapclkmhaaDoor
open Go.RowKit

theorem ownsT.cellf {w : World} {base n c k j : Nat} {L : List ByteArray} (h : ownsT w base (.slice (some ⟨k, 0, none⟩) n c) L) (hj : j < L.length) : w.cell? ⟨k, j, none⟩ = some (.string (lf L j)) ∧ w.frozen? ⟨k, j, none⟩ = false := by
  obtain ⟨_, h2⟩ := h.sl
  obtain ⟨k', e, _, _, hc⟩ := h2 (by omega)
  obtain rfl : k = k' := by simpa using e
  obtain ⟨cur, hk⟩ := h.block (k := k) rfl
  exact ⟨hc j hj, by simp [World.frozen?, hk]⟩

/-- The array of the lists stays, and what lies below, and whatever block is none of the lists'. -/
structure Fr (base G n : Nat) (V : Nat → Value) (w wr : World) : Prop where
  arr : wr.heap[G]? = w.heap[G]?
  bel : Below base w wr
  far : ∀ k, k < w.heap.size → (∀ i, i < n → (V i).ownBlock ≠ some k) → wr.heap[k]? = w.heap[k]?
theorem Fr.below {base G n : Nat} {V : Nat → Value} {w wr w' : World} (h : Fr base G n V w wr) (hb : Below wr.heap.size wr w') (hG : G < wr.heap.size) (hB : base ≤ wr.heap.size) : Fr base G n V w w' :=
  ⟨(hb.block G hG).trans h.arr, h.bel.trans (hb.mono hB), fun k hk hv => (hb.block k (Nat.lt_of_lt_of_le hk h.bel.size)).trans (h.far k hk hv)⟩
theorem Fr.set {base G n g j : Nat} {V : Nat → Value} {w wr : World} (h : Fr base G n V w wr) (hg : g ≠ G) (hB : base ≤ g) (hV : w.heap.size ≤ g ∨ ∃ i, i < n ∧ (V i).ownBlock = some g) (u : Value) : Fr base G n V w (wr.setCell ⟨g, j, none⟩ u) :=
  ⟨(Below.heap_setCell wr ⟨g, j, none⟩ u G (Ne.symm hg)).trans h.arr, h.bel.setCell hB u, fun k hk hv => (Below.heap_setCell wr ⟨g, j, none⟩ u k (fun e => by
    rcases hV with h1 | ⟨i, hi, h1⟩
    · have : k = g := e
      omega
    · have : k = g := e
      exact hv i hi (by rw [h1, this]))).trans (h.far k hk hv)⟩
/-- Loop 1, ahead of list i: those before it are marked. -/
def M1 (base G n : Nat) (V : Nat → Value) (N : Nat → Nat) (w wr : World) (i : Nat) : Prop :=
  ∃ L : Nat → List ByteArray, Fam wr base n V L ∧ (∀ m, m < n → (L m).length = N m) ∧ (∀ m, m < i → L m = marks m (N m)) ∧ Fr base G n V w wr
/-- .. and the first j of list i. -/
def M2 (base G n : Nat) (V : Nat → Value) (N : Nat → Nat) (w wr : World) (i j : Nat) : Prop :=
  ∃ L : Nat → List ByteArray, Fam wr base n V L ∧ (∀ m, m < n → (L m).length = N m) ∧ (∀ m, m < i → L m = marks m (N m)) ∧ (L i).take j = marks i j ∧ Fr base G n V w wr
theorem M2.start {base G n i : Nat} {V : Nat → Value} {N : Nat → Nat} {w wr : World} (h : M1 base G n V N w wr i) : M2 base G n V N w wr i 0 := by
  obtain ⟨L, a, b, c, d⟩ := h
  exact ⟨L, a, b, c, by rw [List.take_zero]; rfl, d⟩
theorem M2.done {base G n i : Nat} {V : Nat → Value} {N : Nat → Nat} {w wr : World} (h : M2 base G n V N w wr i (N i)) (hi : i < n) : M1 base G n V N w wr (i + 1) := by
  obtain ⟨L, a, b, c, e, d⟩ := h
  refine ⟨L, a, b, fun m hm => ?_, d⟩
  by_cases h : m = i
  · subst h
    rw [← b m hi, List.take_length] at e
    rw [e, b m hi]
  · exact c m (by omega)
theorem M2.mark {base G n i j g c : Nat} {V : Nat → Value} {N : Nat → Nat} {w wr : World} {cur : Array Value} {fr : Nat × Nat} (h : M2 base G n V N w wr i j) (hi : i < n) (hj : j < N i) (hv : V i = .slice (some ⟨g, 0, none⟩) (N i) c) (hG : w.heap[G]? = some (.cells cur 28 fr)) :
    M2 base G n V N w (wr.setCell ⟨g, j, none⟩ (.string (wordS (i : Int) (j : Int)))) i (j + 1) := by
  obtain ⟨L, a, b, hc, e, d⟩ := h
  have hl := b i hi
  have hown := a.own i hi
  have hne := hown.ne_of (d.arr.trans hG)
  rw [hv] at hne hown
  have hb := (World.ownsRow.lt hown g rfl).1
  refine ⟨upd L i ((L i).set j (wordS (i : Int) (j : Int))), a.mark hi (by rw [hl]; exact hv) (by omega) _, fun m hm => ?_, fun m hm => ?_, ?_, d.set (fun e => hne (by rw [e]; rfl)) hb (.inr ⟨i, hi, by rw [hv]; rfl⟩) _⟩
  · by_cases h : m = i
    · subst h; rw [upd_at, List.length_set, hl]
    · rw [upd_ne _ _ h, b m hm]
  · rw [upd_ne _ _ (by omega), hc m hm]
  · rw [upd_at]; exact take_mark (by omega) e
theorem M2.below {base G n i j : Nat} {V : Nat → Value} {N : Nat → Nat} {w wr w' : World} (h : M2 base G n V N w wr i j) (hb : Below wr.heap.size wr w') (hG : G < wr.heap.size) (hB : base ≤ wr.heap.size) : M2 base G n V N w w' i j := by
  obtain ⟨L, a, b, c, e, d⟩ := h
  exact ⟨L, a.below hb, b, c, e, d.below hb hG hB⟩
theorem info28 : (Tryd.prog.info? 28).map (fun i => (i.zero, i.size, i.bytes)) = some (some (.slice none 0 0), 1, 24) := by kernel_rfl
/-- The first n values of V. -/
def vals (V : Nat → Value) (n : Nat) : List Value := (List.range n).map V
theorem vals_length (V : Nat → Value) (n : Nat) : (vals V n).length = n := by unfold vals; rw [List.length_map, List.length_range]
theorem vals_at {V : Nat → Value} {n j : Nat} (h : j < n) : (vals V n)[j]? = some (V j) := by unfold vals; rw [List.getElem?_map, List.getElem?_range h]; rfl
/-- What the marking of a place needs. -/
theorem M2.at {base G n i j : Nat} {V : Nat → Value} {N : Nat → Nat} {w wr : World} (h : M2 base G n V N w wr i j) (hi : i < n) (hj : j < N i) : ∃ g c, V i = .slice (some ⟨g, 0, none⟩) (N i) c ∧ (∃ u, wr.cell? ⟨g, j, none⟩ = some u) ∧ wr.frozen? ⟨g, j, none⟩ = false := by
  obtain ⟨L, a, b, _, _, _⟩ := h
  have hown := a.own i hi
  have hl := b i hi
  obtain ⟨A, c, hv⟩ := hown.form
  have hown2 := hown
  rw [hv] at hown2
  obtain ⟨_, h2⟩ := hown2.sl
  obtain ⟨k, rfl, _, _, _⟩ := h2 (by omega)
  obtain ⟨h3, h4⟩ := hown2.cellf (j := j) (by omega)
  exact ⟨k, c, by rw [hv, hl], ⟨_, h3⟩, h4⟩

/-- Loop 2: list m has been grown K m times; Z: where the blocks of before ended. -/
structure M3 (base G g2 n Z : Nat) (V : Nat → Value) (N : Nat → Nat) (w wr : World) (K : Nat → Nat) (V' : Nat → Value) : Prop where
  fam : Fam wr base n V' (fun m => marks m (N m + K m))
  arr : ∃ cur, wr.heap[g2]? = some (.cells cur 28 (0, 0)) ∧ ∀ m, m < n → cur[m]? = some (V' m)
  old : ∀ m, m < n → ∀ q c, V m = .slice (some ⟨q, 0, none⟩) (N m) c → ∀ j, j < N m → wr.cell? ⟨q, j, none⟩ = some (.string (wordS (m : Int) (j : Int)))
  near : ∀ m, m < n → (V' m).ownBlock = (V m).ownBlock ∨ ∃ k, (V' m).ownBlock = some k ∧ Z ≤ k
  frm : Fr base G n V w wr
  sz : Z ≤ wr.heap.size
/-- What does not change in loop 2. -/
structure C3 (base G g2 n Z : Nat) (V : Nat → Value) (w : World) : Prop where
  apart : ∀ i j, i < n → j < n → i ≠ j → (V i).ownBlock = none ∨ (V i).ownBlock ≠ (V j).ownBlock
  low : ∀ m, m < n → ∀ q, (V m).ownBlock = some q → q < Z
  big : Z ≤ g2 ∧ base ≤ Z ∧ G < Z ∧ w.heap.size ≤ Z
  g : ∃ cur fr, w.heap[G]? = some (.cells cur 28 fr)
theorem M3.below {base G g2 n Z : Nat} {V V' : Nat → Value} {N K : Nat → Nat} {w wr w' : World} (h : M3 base G g2 n Z V N w wr K V') (c : C3 base G g2 n Z V w) (hb : Below wr.heap.size wr w') : M3 base G g2 n Z V N w w' K V' where
  fam := h.fam.below hb
  arr := by
    obtain ⟨cur, h1, h2⟩ := h.arr
    have hl : g2 < wr.heap.size := by
      rcases Nat.lt_or_ge g2 wr.heap.size with h | h
      · exact h
      · rw [Array.getElem?_eq_none h] at h1; cases h1
    exact ⟨cur, (hb.block g2 hl).trans h1, h2⟩
  old m hm q d hv j hj := by
    have := c.low m hm q (by rw [hv]; rfl)
    have := h.sz
    exact (hb.cell (p := ⟨q, j, none⟩) (show q < wr.heap.size by omega)).trans (h.old m hm q d hv j hj)
  near := h.near
  frm := h.frm.below hb (by have := c.big; have := h.sz; omega) (by have := c.big; have := h.sz; omega)
  sz := Nat.le_trans h.sz hb.size
theorem M3.grow {base G g2 n Z i g cap : Nat} {V V' : Nat → Value} {N K : Nat → Nat} {w wr w' : World} (h : M3 base G g2 n Z V N w wr K V') (c : C3 base G g2 n Z V w) (hi : i < n)
    (ho : ownsT w' base (.slice (some ⟨g, 0, none⟩) (N i + K i + 1) cap) (marks i (N i + K i + 1))) (hw : Went wr w' (V' i) g) :
    M3 base G g2 n Z V N w (w'.setCell ⟨g2, i, none⟩ (.slice (some ⟨g, 0, none⟩) (N i + K i + 1) cap)) (upd K i (K i + 1)) (upd V' i (.slice (some ⟨g, 0, none⟩) (N i + K i + 1) cap)) := by
  obtain ⟨cur, hg2, hcur⟩ := h.arr
  have hg2l : g2 < wr.heap.size := by
    rcases Nat.lt_or_ge g2 wr.heap.size with h | h
    · exact h
    · rw [Array.getElem?_eq_none h] at hg2; cases hg2
  have hsz := h.sz
  obtain ⟨b1, b2, b3, b4⟩ := c.big
  obtain ⟨curG, frG, hGw⟩ := c.g
  have hGr : wr.heap[G]? = some (.cells curG 28 frG) := h.frm.arr.trans hGw
  have hown := h.fam.own i hi
  have hnG := hown.ne_of hGr
  have hng2 := hown.ne_of hg2
  have hlt := World.ownsRow.lt hown
  have hgrow : wr.grownBy w' (V' i).ownBlock := by
    rcases hw with ⟨e, hg⟩ | ⟨_, hg⟩
    · rw [e]; exact hg
    · exact ⟨hg.os, hg.tape, hg.output, hg.size, fun k hk _ => hg.block k hk (by simp)⟩
  have hg2' : w'.heap[g2]? = some (.cells cur 28 (0, 0)) := (hgrow.block g2 hg2l (fun e => hng2 e.symm)).trans hg2
  have hfam : Fam w' base n (upd V' i (.slice (some ⟨g, 0, none⟩) (N i + K i + 1) cap)) (upd (fun m => marks m (N m + K m)) i (marks i (N i + K i + 1))) :=
    h.fam.step hi hgrow ho (by
      rcases hw with ⟨e, _⟩ | ⟨hg, _⟩
      · exact .inl e.symm
      · exact .inr ⟨g, rfl, hg⟩)
  have hfun : upd (fun m => marks m (N m + K m)) i (marks i (N i + K i + 1)) = fun m => marks m (N m + upd K i (K i + 1) m) := by
    funext m
    unfold upd
    by_cases e : m = i
    · subst e; rw [if_pos rfl, if_pos rfl, Nat.add_assoc]
    · rw [if_neg e, if_neg e]
  rw [hfun] at hfam
  refine ⟨⟨fun m hm => ownsRow_setCell_other (hfam.own m hm) (show _ ≠ some g2 from (hfam.own m hm).ne_of hg2') _, hfam.apart⟩, ?_, fun m hm q d hv j hj => ?_, fun m hm => ?_, ?_, ?_⟩
  · refine ⟨cur.setIfInBounds i (.slice (some ⟨g, 0, none⟩) (N i + K i + 1) cap), ?_, fun m hm => ?_⟩
    · show (w'.heap.modify g2 _)[g2]? = _
      rw [Array.getElem?_modify, if_pos rfl, hg2']
      rfl
    · have hms : m < cur.size := by
        rcases Nat.lt_or_ge m cur.size with h | h
        · exact h
        · have := hcur m hm; rw [Array.getElem?_eq_none h] at this; cases this
      unfold upd
      by_cases e : m = i
      · subst e; rw [if_pos rfl, Array.getElem?_setIfInBounds_self_of_lt hms]
      · rw [if_neg e, Array.getElem?_setIfInBounds_ne (Ne.symm e)]; exact hcur m hm
  · have hq : (V m).ownBlock = some q := by rw [hv]; rfl
    have hqZ := c.low m hm q hq
    have hset : (w'.setCell ⟨g2, i, none⟩ (.slice (some ⟨g, 0, none⟩) (N i + K i + 1) cap)).cell? ⟨q, j, none⟩ = w'.cell? ⟨q, j, none⟩ :=
      World.cell?_of_block (Below.heap_setCell w' ⟨g2, i, none⟩ _ q (show q ≠ g2 by omega))
    rw [hset]
    have hold := h.old m hm q d hv j hj
    rcases hw with ⟨e, hg⟩ | ⟨_, hg⟩
    · by_cases hqg : q = g
      · subst hqg
        have hvi : (V i).ownBlock = some q := by
          rcases h.near i hi with e2 | ⟨k, e2, hk⟩
          · rw [← e2]; exact e
          · rw [e] at e2; have := Option.some.inj e2; omega
        have hmi : m = i := by
          rcases Nat.decEq m i with hne | he
          · exfalso
            rcases c.apart m i hm hi hne with e3 | e3
            · rw [hq] at e3; cases e3
            · exact e3 (hq.trans hvi.symm)
          · exact he
        subst hmi
        have hcf := (ho.cellf (j := j) (by rw [marks_length]; omega)).1
        rw [hcf]
        unfold lf
        rw [List.getD_eq_getElem?_getD, List.getElem?_eq_getElem (by rw [marks_length]; omega), marks_at]
        rfl
      · exact (World.cell?_of_block (hg.block q (by omega) (by simpa using hqg))).trans hold
    · exact (World.cell?_of_block (hg.block q (by omega) (by simp))).trans hold
  · unfold upd
    by_cases e : m = i
    · subst e
      rw [if_pos rfl]
      rcases hw with ⟨e, _⟩ | ⟨hg, _⟩
      · rcases h.near m hm with e2 | ⟨k, e2, hk⟩
        · left; rw [← e2, e]; rfl
        · right; rw [e] at e2; obtain rfl := Option.some.inj e2; exact ⟨g, rfl, hk⟩
      · right; exact ⟨g, rfl, by omega⟩
    · rw [if_neg e]; exact h.near m hm
  · have hf2 : Fr base G n V w w' := ⟨(hgrow.block G (by omega) (fun e => hnG e.symm)).trans h.frm.arr, below_grown h.frm.bel (by omega) hgrow (fun k hk => (hlt k hk).1), fun k hk hv => (hgrow.block k (Nat.lt_of_lt_of_le hk h.frm.bel.size) (fun e => by
      rcases h.near i hi with e2 | ⟨z, e2, hz⟩
      · exact hv i hi (e2.symm.trans e.symm)
      · rw [e2] at e; have := Option.some.inj e; omega)).trans (h.frm.far k hk hv)⟩
    exact hf2.set (show g2 ≠ G by omega) (by omega) (.inl (by omega)) _
  · have := hgrow.size
    simp [World.setCell]
    omega
end Go.Proofs.YtnodjcapclkmhaaDoor
