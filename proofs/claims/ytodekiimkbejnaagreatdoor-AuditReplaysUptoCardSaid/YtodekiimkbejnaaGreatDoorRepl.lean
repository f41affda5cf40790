/- audit.Replay: what it computes; the laws of its walk. -/
import Derived.Test.YtodekiimkbejnaaGreatDoorSorted
import Derived.Deep.AppendLies
namespace Go.Proofs.YtodekiimkbejnaaGreatDoor
open Go.RowKit Go.WideMaps Go.Maps Go.Sort

/-- The cells of n postings. -/
def PostsAt (w : World) (A : Option Addr) (n : Nat) (ps : Nat → PostV) : Prop := 0 < n → ∃ g o, A = some ⟨g, o, none⟩ ∧ g < w.heap.size ∧ ∀ i, i < n →
  (w.cell? ⟨g, o + i * 4, none⟩ = some (.string (ps i).id) ∧ w.cell? ⟨g, o + i * 4 + 1, none⟩ = some (.int .i64 (ps i).tick) ∧ w.cell? ⟨g, o + i * 4 + 2, none⟩ = some (.string (ps i).note) ∧ w.cell? ⟨g, o + i * 4 + 3, none⟩ = some (.slice (ps i).A (ps i).n (ps i).c)) ∧
  (ps i).sized ∧ LegsAt w (ps i).A (ps i).n (ps i).lg ∧ (0 < (ps i).n → ∀ a, (ps i).A = some a → a.block < w.heap.size)
theorem PostsAt.below {w w' : World} {A : Option Addr} {n : Nat} {ps : Nat → PostV} (h : PostsAt w A n ps) (hb : Below w.heap.size w w') : PostsAt w' A n ps := by
  intro hn
  obtain ⟨g, o, e, hg, hc⟩ := h hn
  refine ⟨g, o, e, Nat.lt_of_lt_of_le hg hb.size, fun i hi => ?_⟩
  obtain ⟨⟨h1, h2, h3, h4⟩, h5, h6, h7⟩ := hc i hi
  exact ⟨⟨(hb.cell (by exact hg)).trans h1, (hb.cell (by exact hg)).trans h2, (hb.cell (by exact hg)).trans h3, (hb.cell (by exact hg)).trans h4⟩, h5, h6.below h7 hb, fun h a e => Nat.lt_of_lt_of_le (h7 h a e) hb.size⟩

/-- What a leg does to the sums: none: it overflows. -/
def legR (D : DataW Unit) (l : LegV) : Option (DataW Unit) :=
  let s := wrap64 (numAt D (kl l.a) + l.x)
  if (decide ((4611686018427387904 : Int) < s) || decide (s < -4611686018427387904)) = true then none else some (D.put (kl l.a) (.lit (.int .i64 s)))
def legsR (D : DataW Unit) (lg : Nat → LegV) : Nat → Option (DataW Unit)
  | 0 => some D
  | k + 1 => (legsR D lg k).bind fun E => legR E (lg k)
/-- What replaying the first k postings comes to: 0 and the sums; 1: an unlawful posting; 2: an overflow. -/
def postsR (ps : Nat → PostV) : Nat → Nat × DataW Unit
  | 0 => (0, .map [])
  | k + 1 => if (postsR ps k).1 = 0 then (if pOk (ps k) then (match legsR (postsR ps k).2 (ps k).lg (ps k).n with | some E => (0, E) | none => (2, .map [])) else (1, .map [])) else postsR ps k
theorem postsR_stays {ps : Nat → PostV} {k n : Nat} (h : (postsR ps k).1 ≠ 0) (hk : k ≤ n) : postsR ps n = postsR ps k := by
  induction n with
  | zero => obtain rfl : k = 0 := by omega
            rfl
  | succ m ih =>
    by_cases e : k = m + 1
    · subst e; rfl
    · have ih := ih (by omega)
      show (if (postsR ps m).1 = 0 then _ else postsR ps m) = _
      rw [ih, if_neg h]
theorem legsR_none {D : DataW Unit} {lg : Nat → LegV} {k n : Nat} (h : legsR D lg k = none) (hk : k ≤ n) : legsR D lg n = none := by
  induction n with
  | zero => obtain rfl : k = 0 := by omega
            exact h
  | succ m ih =>
    by_cases e : k = m + 1
    · subst e; exact h
    · show (legsR D lg m).bind _ = none
      rw [ih (by omega)]; rfl
theorem zero2 (w : World) : (zeroValue 2).run Tryz.prog w = .ok (.int .i64 0) w := by kernel_rfl
/-- The cells of the answer. -/
def legCells (D : DataW Unit) : List (List UInt8) → List Value
  | [] => []
  | s :: r => .string ⟨s.toArray⟩ :: .int .i64 (numAt D (.string s)) :: legCells D r
def sortedKeys (D : DataW Unit) : List (List UInt8) := (strKeys D).mergeSort fun x y => decide (x ≤ y)
/-- What Replay answers. -/
def RepPost (Bf : Nat → Addr) (r : Nat × DataW Unit) (w : World) (e : Ending) (w' : World) : Prop := Below w.heap.size w w' ∧
  (r.1 = 0 ∧ (∃ v, e = .returned (.tuple #[v, .nilIface]) ∧ w'.ownsRow w.heap.size 37 2 v (sortedKeys r.2).length (legCells r.2 (sortedKeys r.2))) ∨
   r.1 = 1 ∧ e = .returned (.tuple #[.slice none 0 0, .iface 135 (.pointer (some (Bf 0)))]) ∨
   r.1 = 2 ∧ e = .returned (.tuple #[.slice none 0 0, .iface 135 (.pointer (some (Bf 1)))]))

/-- Between the rounds. -/
structure Rp (bm B : Nat) (w wr : World) (q : Nat) (D : DataW Unit) : Prop where
  map : wr.ownsMap Tryz.prog 9 (plainElem (H := Unit) Tryz.prog 2) bm q D
  low : B ≤ bm ∧ bm < wr.heap.size
  bel : Below B w wr
theorem Rp.below {bm B q : Nat} {D : DataW Unit} {w wr w' : World} (h : Rp bm B w wr q D) (hb : Below wr.heap.size wr w') : Rp bm B w w' q D :=
  ⟨ownsMap_keep h.map (hb.block bm h.low.2), ⟨h.low.1, Nat.lt_of_lt_of_le h.low.2 hb.size⟩, h.bel.trans (hb.mono (by have := h.low; omega))⟩
theorem Rp.put {bm B q : Nat} {D E : DataW Unit} {w wr w' : World} (h : Rp bm B w wr q D) (hm : w'.ownsMap Tryz.prog 9 (plainElem (H := Unit) Tryz.prog 2) bm (q + 1) E) (hg : wr.grownBy w' (some bm)) : Rp bm B w w' (q + 1) E :=
  ⟨hm, ⟨h.low.1, Nat.lt_of_lt_of_le h.low.2 hg.size⟩, h.bel.trans ⟨hg.os, hg.tape, hg.output, hg.size, fun k hk => hg.block k (by have := h.low; omega) (by have := h.low; simp; omega)⟩⟩
theorem rp_start (w : World) : Rp w.heap.size w.heap.size w (w.alloc (.map #[] 0)) 0 (.map []) :=
  ⟨World.ownsMap_made _ _ _ _, ⟨Nat.le_refl _, by simp⟩, Below.new _ _⟩

theorem info37 : (Tryz.prog.info? 37).map (fun i => (i.zero, i.size, i.bytes)) = some (some (.agg #[.string ⟨#[]⟩, .int .i64 0]), 2, 24) := by kernel_rfl
section
variable {w : World} {ops : Array Oper} {rest : List Oper} {o : Oper} {a : Act} {Q : Exit → Act → World → Prop}
/-- One leg behind. -/
theorem append_leg (hgd : o.guard = none) (s x : Operand)
    (ho : o.op = .call { callee := .builtin .append, args := #[s, x], argTypes := #[25, 25] })
    (B n : Nat) (v : Value) (xs : List Value) (hs : a.eval s = v) (hown : w.ownsRow B 37 2 v n xs) (t : ByteArray) (c : Int) (hx : a.eval x = .slice (some ⟨w.heap.size, 0, none⟩) 1 1)
    (hlen : n + 1 ≤ 4398046511104) (hbase : B ≤ w.heap.size)
    (h : ∀ k cap w', w'.ownsRow B 37 2 (.slice (some ⟨k, 0, none⟩) (n + 1) cap) (n + 1) (xs ++ [.string t, .int .i64 c]) → w.grownBy w' v.ownBlock → (v.ownBlock = some k ∨ w.heap.size ≤ k) → wpList Tryz.prog ops Q rest (a.put o.dst (.slice (some ⟨k, 0, none⟩) (n + 1) cap)) w') :
    wpList Tryz.prog ops Q (o :: rest) a (w.alloc (.cells #[.string t, .int .i64 c] 37)) := by
  obtain ⟨i0, hi0, hz0, hz1, hz2⟩ := info_parts info37
  refine wpList_append_lies _ hgd s x 25 ho B 37 i0 _ 2 24 Tryz.underlying25 hi0 hz0 hz1 hz2 rfl (by decide) v n xs hs (World.ownsRow.alloc hown _) ⟨w.heap.size, 0, none⟩ 1 1 [.string t, .int .i64 c] hx rfl (World.news_of_block (heap_alloc_new w _)) ?_ (by omega) (by unfold maxLen; omega) (by omega) (by simp; omega) _ rfl ?_
  · intro u hu
    simp at hu
    rcases hu with rfl | rfl <;> rfl
  · intro k cap w' h1 hg hat _
    refine h k cap w' h1 (World.grownBy.trans (World.grownBy_alloc w _ _) hg) ?_
    rcases hat with h | h
    · exact .inl h
    · right; rw [h]; simp
end

theorem legCells_append (D : DataW Unit) : ∀ (K L : List (List UInt8)), legCells D (K ++ L) = legCells D K ++ legCells D L
  | [], _ => rfl
  | s :: r, L => by simp [legCells, legCells_append D r L]
theorem legCells_take (D : DataW Unit) (K : List (List UInt8)) (j : Nat) (h : j < K.length) : legCells D (K.take (j + 1)) = legCells D (K.take j) ++ [.string ⟨(K.getD j []).toArray⟩, .int .i64 (numAt D (.string (K.getD j [])))] := by
  rw [List.take_add_one, legCells_append]
  have : K[j]?.toList = [K.getD j []] := by
    rw [List.getElem?_eq_getElem h]
    simp [List.getD, List.getElem?_eq_getElem h]
  rw [this]
  rfl

/-- Between the rounds of the answer's loop. -/
structure Lo (bm N M q : Nat) (D : DataW Unit) (K : List (List UInt8)) (Ak : Option Addr) (w wx : World) (vo : Value) (j : Nat) : Prop where
  map : wx.ownsMap Tryz.prog 9 (plainElem (H := Unit) Tryz.prog 2) bm q D
  keys : 0 < K.length → ∃ gk, Ak = some ⟨gk, 0, none⟩ ∧ N < gk ∧ gk < M ∧ ∀ i, i < K.length → wx.cell? ⟨gk, i, none⟩ = some (.string ⟨(K.getD i []).toArray⟩)
  own : wx.ownsRow N 37 2 vo j (legCells D (K.take j))
  blk : ∀ g, vo.ownBlock = some g → g = N ∨ M ≤ g
  low : w.heap.size ≤ bm ∧ bm < N ∧ N < M ∧ M ≤ wx.heap.size
  bel : Below w.heap.size w wx
theorem Lo.step {bm N M q : Nat} {D : DataW Unit} {K : List (List UInt8)} {Ak : Option Addr} {w wx w3 : World} {vo : Value} {j g cap : Nat} (h : Lo bm N M q D K Ak w wx vo j) (hj : j < K.length)
    (ho : w3.ownsRow N 37 2 (.slice (some ⟨g, 0, none⟩) (j + 1) cap) (j + 1) (legCells D (K.take j) ++ [.string ⟨(K.getD j []).toArray⟩, .int .i64 (numAt D (.string (K.getD j [])))])) (hg : wx.grownBy w3 vo.ownBlock) (hat : vo.ownBlock = some g ∨ wx.heap.size ≤ g) :
    Lo bm N M q D K Ak w w3 (.slice (some ⟨g, 0, none⟩) (j + 1) cap) (j + 1) := by
  obtain ⟨l1, l2, l3, l4⟩ := h.low
  have keep : ∀ k, k < M → k ≠ N → w3.heap[k]? = wx.heap[k]? := fun k hk hne => hg.block k (by omega) (fun e => by rcases h.blk k e.symm with e | e <;> omega)
  refine ⟨ownsMap_keep h.map (keep bm (by omega) (by omega)), fun hn => ?_, by rw [legCells_take D K j hj]; exact ho, fun k e => ?_, ⟨l1, l2, l3, by have := hg.size; omega⟩, ?_⟩
  · obtain ⟨gk, e, h1, h2, h3⟩ := h.keys hn
    refine ⟨gk, e, h1, h2, fun i hi => ?_⟩
    have hb := keep gk h2 (by omega)
    have := h3 i hi
    unfold World.cell? at this ⊢
    rw [hb]; exact this
  · obtain rfl := Option.some.inj (show some g = some k from e)
    rcases hat with h' | h'
    · exact h.blk _ h'
    · right; omega
  · exact h.bel.trans ⟨hg.os, hg.tape, hg.output, hg.size, fun k hk => keep k (by omega) (by omega)⟩

theorem ownsRow_mono {w : World} {B B' : Nat} {e : TypeId} {z n : Nat} {v : Value} {xs : List Value} (h : w.ownsRow B e z v n xs) (hB : B' ≤ B) : w.ownsRow B' e z v n xs := by
  refine ⟨h.1, ?_⟩
  rcases h.2 with h | ⟨g, cap, cur, a, b, r⟩
  · exact .inl h
  · exact .inr ⟨g, cap, cur, a, Nat.le_trans hB b, r⟩

/-- What slices.Sorted hands back, as the loop reads it. -/
theorem keys_form {w : World} {B : Nat} {v : Value} {K : List (List UInt8)} (h : w.ownsRow B 9 1 v K.length (K.map encStr)) :
    ∃ Ak ck, v = .slice Ak K.length ck ∧ (0 < K.length → ∃ gk, Ak = some ⟨gk, 0, none⟩ ∧ B ≤ gk ∧ gk < w.heap.size ∧ ∀ i, i < K.length → w.cell? ⟨gk, i, none⟩ = some (.string ⟨(K.getD i []).toArray⟩)) := by
  rcases Nat.eq_zero_or_pos K.length with h0 | h0
  · rcases h.2 with ⟨rfl, h1⟩ | ⟨g, cap, cur, rfl, _⟩
    · exact ⟨none, 0, by rw [h1], fun h => by omega⟩
    · exact ⟨_, _, rfl, fun h => by omega⟩
  · obtain ⟨g, cap, rfl, hB, hg⟩ := h.form h0
    refine ⟨_, _, rfl, fun _ => ⟨g, rfl, hB, hg, fun i hi => ?_⟩⟩
    have := h.cells (g := g) rfl i (.string ⟨(K.getD i []).toArray⟩) (by
      rw [List.getElem?_map, List.getElem?_eq_getElem hi]
      simp [List.getD, List.getElem?_eq_getElem hi])
    have hadd : (⟨g, 0, none⟩ : Addr).add i = ⟨g, i, none⟩ := by unfold Addr.add; split <;> simp_all
    rw [hadd] at this
    exact this
theorem sorted_keys_of {D : DataW Unit} {ss : List (List UInt8)} (h : ss.Perm (strKeys D)) : ss.mergeSort (fun x y => decide (x ≤ y)) = sortedKeys D := mergeSort_of_perm h
theorem strKeys_size (D : DataW Unit) : (strKeys D).length ≤ Maps.size D := by
  cases D <;> simp [strKeys, Maps.size]
theorem sortedKeys_length (D : DataW Unit) : (sortedKeys D).length = (strKeys D).length := by unfold sortedKeys; exact List.length_mergeSort _
theorem sortedKeys_key {w : World} {R : Value → Option (DataW Unit × List MemPlace)} {b q : Nat} {D : DataW Unit} (h : w.ownsMap Tryz.prog 9 R b q D) (i : Nat) (hi : i < (sortedKeys D).length) :
    keyOf Tryz.prog 9 (.string ⟨((sortedKeys D).getD i []).toArray⟩) = some (.string ((sortedKeys D).getD i [])) := by
  have hm : (sortedKeys D).getD i [] ∈ strKeys D := by
    have : (sortedKeys D).getD i [] ∈ sortedKeys D := by
      simp [List.getD, List.getElem?_eq_getElem hi]
    exact (List.mergeSort_perm _ _).mem_iff.1 this
  have := strKeys_le h Tryz.underlying9 _ hm
  exact keyOf_string_mk Tryz.underlying9 this
theorem lo_start {bm q : Nat} {D : DataW Unit} {K : List (List UInt8)} {Ak : Option Addr} {w wr w' : World} (h : Rp bm w.heap.size w wr q D) (hb0 : Below (wr.heap.size + 1) (wr.alloc (.cells #[] 37)) w')
    (hk : 0 < K.length → ∃ gk, Ak = some ⟨gk, 0, none⟩ ∧ wr.heap.size + 1 ≤ gk ∧ gk < w'.heap.size ∧ ∀ i, i < K.length → w'.cell? ⟨gk, i, none⟩ = some (.string ⟨(K.getD i []).toArray⟩)) :
    Lo bm wr.heap.size w'.heap.size q D K Ak w w' (.slice (some ⟨wr.heap.size, 0, none⟩) 0 0) 0 := by
  have hz : (wr.alloc (.cells #[] 37)).heap.size = wr.heap.size + 1 := by simp
  have hb : Below (wr.alloc (.cells #[] 37)).heap.size (wr.alloc (.cells #[] 37)) w' := by rw [hz]; exact hb0
  have h2 := (h.below (Below.new wr (.cells #[] 37))).below hb
  have hn := (hb.block wr.heap.size (by omega)).trans (heap_alloc_new wr (.cells #[] 37))
  have hs := hb.size
  refine ⟨h2.map, fun h0 => ?_, ⟨rfl, .inr ⟨_, 0, #[], rfl, Nat.le_refl _, hn, Nat.le_refl _, Nat.zero_le _, rfl, rfl⟩⟩, fun g e => ?_, ⟨h.low.1, h.low.2, by omega, Nat.le_refl _⟩, h2.bel⟩
  · obtain ⟨gk, e, h3, h4, h5⟩ := hk h0
    exact ⟨gk, e, by omega, h4, h5⟩
  · exact .inl (Option.some.inj (show some wr.heap.size = some g from e)).symm
end Go.Proofs.YtodekiimkbejnaaGreatDoor
