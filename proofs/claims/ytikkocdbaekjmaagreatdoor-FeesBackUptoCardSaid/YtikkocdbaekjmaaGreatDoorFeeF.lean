/- fees.read: what it computes; the laws that its walk wants. -/
import Derived.Test.YtikkocdbaekjmaaGreatDoorFeeE
namespace Go.Proofs.YtikkocdbaekjmaaGreatDoor
open Go.RowKit

/-- One tier's text. -/
def tierF (l : List UInt8) : Option (Nat × Nat × Nat) :=
  match numF (Lib.cut l [58]).1 with
  | none => none
  | some a => match numF (Lib.cut (Lib.cut l [58]).2.1 [43]).1 with
    | none => none
    | some b => match numF (Lib.cut (Lib.cut l [58]).2.1 [43]).2.1 with
      | none => none
      | some c => some (a, b, c)
/-- The first k tiers. -/
def tiersTo (p : Nat → List UInt8) : Nat → Option (List (Nat × Nat × Nat))
  | 0 => some []
  | k + 1 => match tiersTo p k with
    | none => none
    | some ts => match tierF (p k) with
      | none => none
      | some t => some (ts ++ [t])
theorem tiersTo_none {p : Nat → List UInt8} {k : Nat} (h : tierF (p k) = none) : ∀ n, k < n → tiersTo p n = none
  | n + 1, hk => by
    unfold tiersTo
    by_cases e : k = n
    · subst e; rw [h]; split <;> rfl
    · rw [tiersTo_none h n (by omega)]
def pairStep (key val : List UInt8) (x : Nat × Nat) : Option (Nat × Nat) :=
  match numF val with
  | none => none
  | some n => if key = [109, 105, 110] then some (n, x.2) else if key = [109, 97, 120] then some (x.1, n) else none
/-- The first k pairs behind the tiers. -/
def pairsTo (w : Nat → List UInt8) : Nat → Option (Nat × Nat)
  | 0 => some (0, 0)
  | k + 1 => match pairsTo w k with
    | none => none
    | some x => pairStep (w (2 * k + 1)) (w (2 * k + 2)) x
theorem pairsTo_none {w : Nat → List UInt8} {k : Nat} {x : Nat × Nat} (h0 : pairsTo w k = some x) (h : pairStep (w (2 * k + 1)) (w (2 * k + 2)) x = none) : ∀ n, k < n → pairsTo w n = none
  | n + 1, hk => by
    unfold pairsTo
    by_cases e : k = n
    · subst e; rw [h0]; exact h
    · rw [pairsTo_none h0 h n (by omega)]
/-- A text's pieces between the bytes c. -/
def pieces (s : ByteArray) (c : UInt8) : List ByteArray := Lib.splitB ⟨#[c]⟩ 0 (Lib.countB s ⟨#[c]⟩) s
def nth (l : List ByteArray) (i : Nat) : List UInt8 := (l.getD i ⟨#[]⟩).data.toList
/-- What read takes a text for. -/
def readF (s : ByteArray) : Option (List (Nat × Nat × Nat) × Nat × Nat) :=
  match tiersTo (nth (pieces ((pieces s 32).getD 0 ⟨#[]⟩) 44)) (pieces ((pieces s 32).getD 0 ⟨#[]⟩) 44).length with
  | none => none
  | some ts => if (pieces s 32).length % 2 = 1 then (match pairsTo (nth (pieces s 32)) ((pieces s 32).length / 2) with
    | none => none
    | some (l, m) => some (ts, l, m)) else none

theorem cut_le (l sep : List UInt8) : (Lib.cut l sep).1.length ≤ l.length ∧ (Lib.cut l sep).2.1.length ≤ l.length := by
  unfold Lib.cut
  split
  · exact ⟨by rw [List.length_take]; exact Nat.min_le_right _ _, by rw [List.length_drop]; omega⟩
  · exact ⟨Nat.le_refl _, Nat.zero_le _⟩
theorem numF_le {l : List UInt8} {n : Nat} (h : numF l = some n) : n ≤ 1000000000000 := by
  unfold numF at h
  split at h
  · rename_i hh
    have h1 := numAcc_lt l (by rw [← List.all_eq_true]; exact hh.2.2)
    have h2 := pow_le12 hh.2.1
    injection h with h
    omega
  · cases h

/-- The cells of tiers. -/
def tCells : List (Nat × Nat × Nat) → List Value
  | [] => []
  | (a, b, c) :: r => .int .i64 a :: .int .i64 b :: .int .i64 c :: tCells r
theorem tCells_append : ∀ (x y : List (Nat × Nat × Nat)), tCells (x ++ y) = tCells x ++ tCells y
  | [], _ => rfl
  | (_, _, _) :: r, y => by simp only [List.cons_append, tCells, tCells_append r y]
theorem tCells_length : ∀ x : List (Nat × Nat × Nat), (tCells x).length = x.length * 3
  | [] => rfl
  | (_, _, _) :: r => by simp only [tCells, List.length_cons, tCells_length r]; omega
/-- v holds the tiers ts in a row of its own from B on. -/
def OwnT (w : World) (B : Nat) (v : Value) (ts : List (Nat × Nat × Nat)) : Prop := w.ownsRow B 35 3 v ts.length (tCells ts)
theorem info35 : (Tryz.prog.info? 35).map (fun i => (i.zero, i.size, i.bytes)) = some (some (.agg #[.int .i64 0, .int .i64 0, .int .i64 0]), 3, 24) := by kernel_rfl
theorem OwnT.block {w : World} {B : Nat} {v : Value} {ts : List (Nat × Nat × Nat)} (h : OwnT w B v ts) : ∀ k, v.ownBlock = some k → B ≤ k ∧ k < w.heap.size ∧ ∃ cur, w.heap[k]? = some (.cells cur 35 (0, 0)) := by
  intro k hk
  rcases h.2 with ⟨rfl, _⟩ | ⟨g, cap, cur, rfl, hB, hg, _⟩
  · cases hk
  · cases hk
    exact ⟨hB, lt_of_block hg, cur, hg⟩
theorem OwnT.keep {w w' : World} {B : Nat} {v : Value} {ts : List (Nat × Nat × Nat)} (h : OwnT w B v ts) (hb : ∀ k, v.ownBlock = some k → w'.heap[k]? = w.heap[k]?) : OwnT w' B v ts := by
  rcases h with ⟨h1, h2 | ⟨g, cap, cur, rfl, hB, hg, hr⟩⟩
  · exact ⟨h1, .inl h2⟩
  · exact ⟨h1, .inr ⟨g, cap, cur, rfl, hB, (hb g rfl).trans hg, hr⟩⟩
theorem OwnT.nil (w : World) (B : Nat) : OwnT w B (.slice none 0 0) [] := ⟨rfl, .inl ⟨rfl, rfl⟩⟩
theorem OwnT.form {w : World} {B : Nat} {v : Value} {ts : List (Nat × Nat × Nat)} (h : OwnT w B v ts) : ∃ A c, v = .slice A ts.length c := by
  rcases h.2 with ⟨rfl, h2⟩ | ⟨g, cap, cur, rfl, _⟩
  · exact ⟨none, 0, by rw [h2]⟩
  · exact ⟨_, _, rfl⟩
section
variable {w : World} {ops : Array Oper} {rest : List Oper} {o : Oper} {a : Act} {Q : Exit → Act → World → Prop}
theorem append_tier (hgd : o.guard = none) (s x : Operand) (ho : o.op = .call { callee := .builtin .append, args := #[s, x], argTypes := #[23, 23] })
    (B : Nat) (v : Value) (ts : List (Nat × Nat × Nat)) (hs : a.eval s = v) (hown : OwnT w B v ts) (g : Nat) (t : Nat × Nat × Nat) (hx : a.eval x = .slice (some ⟨g, 0, none⟩) 1 1) (hg : w.heap[g]? = some (.cells #[.int .i64 t.1, .int .i64 t.2.1, .int .i64 t.2.2] 35 (0, 0)))
    (hlen : ts.length ≤ 4294967296) (hB : B ≤ w.heap.size)
    (h : ∀ v' w', OwnT w' B v' (ts ++ [t]) → w.grownBy w' v.ownBlock → wpList Tryz.prog ops Q rest (a.put o.dst v') w') : wpList Tryz.prog ops Q (o :: rest) a w := by
  obtain ⟨i, hi, hzz⟩ := Option.map_eq_some_iff.1 info35
  simp only [Prod.mk.injEq] at hzz
  obtain ⟨hz, hsz, hby⟩ := hzz
  have hsrc : w.ownsRow g 35 3 (.slice (some ⟨g, 0, none⟩) 1 1) 1 (tCells [t]) := ⟨rfl, .inr ⟨g, 1, #[.int .i64 t.1, .int .i64 t.2.1, .int .i64 t.2.2], rfl, Nat.le_refl _, hg, Nat.le_refl _, by unfold maxLen; decide, rfl, rfl⟩⟩
  refine wpList_append_rows (P := Tryz.prog) hgd s x 23 ho B 35 i _ 3 24 Tryz.underlying23 hi hz hsz hby rfl (by decide) v ts.length _ hs hown g _ 1 _ hx hsrc (by obtain ⟨a, b, c⟩ := t; simp [tCells, Value.oneCell']) (by unfold maxLen; omega) (by omega) hB fun v' w' h1 h2 _ => h v' w' ?_ h2
  unfold OwnT
  rw [tCells_append, List.length_append]
  exact h1
end

/-- What stands while read goes on: the result's block, the schedule's, the words, the tiers' texts. -/
structure RS (w0 w : World) (W P : List ByteArray) (v : Value) (ts : List (Nat × Nat × Nat)) (l m : Nat) : Prop where
  below : Below w0.heap.size w0 w
  res : w.heap[w0.heap.size]? = some (.cells #[.slice none 0 0, .int .i64 0, .int .i64 0] 25 (0, 0))
  box : w.heap[w0.heap.size + 1]? = some (.cells #[v, .int .i64 l, .int .i64 m] 25 (0, 0))
  words : w.heap[w0.heap.size + 2]? = some (.cells (W.map Value.string).toArray 9 (0, 0))
  pcs : w.heap[w0.heap.size + 3]? = some (.cells (P.map Value.string).toArray 9 (0, 0))
  own : OwnT w w0.heap.size v ts
variable {w0 w w' : World} {W P : List ByteArray} {v v' : Value} {ts ts' : List (Nat × Nat × Nat)} {l m : Nat}
theorem RS.step (h : RS w0 w W P v ts l m) (hb : Below w.heap.size w w') : RS w0 w' W P v ts l m :=
  ⟨h.below.trans (hb.mono h.below.size), (hb.block _ (lt_of_block h.res)).trans h.res, (hb.block _ (lt_of_block h.box)).trans h.box, (hb.block _ (lt_of_block h.words)).trans h.words, (hb.block _ (lt_of_block h.pcs)).trans h.pcs, h.own.keep fun k hk => hb.block k (h.own.block k hk).2.1⟩
theorem RS.other {k : Nat} {c : Array Value} {t : TypeId} (h : RS w0 w W P v ts l m) (hk : w.heap[k]? = some (.cells c t (0, 0))) (ht : t ≠ 35) : some k ≠ v.ownBlock := fun e => by
  obtain ⟨_, _, cur, hc⟩ := h.own.block k e.symm
  rw [hk] at hc
  injection hc with hc; injection hc with _ hc _; exact ht hc
theorem heap_set_at {w : World} {g i : Nat} {c : Array Value} {t : TypeId} (h : w.heap[g]? = some (.cells c t (0, 0))) (u : Value) : (w.setCell ⟨g, i, none⟩ u).heap[g]? = some (.cells (c.setIfInBounds i u) t (0, 0)) := by
  show (w.heap.modify g _)[g]? = _
  rw [Array.getElem?_modify, if_pos rfl, h]
  rfl
/-- The schedule's block is written. -/
theorem RS.put {v2 : Value} {i : Nat} {u : Value} {l2 m2 : Nat} (h : RS w0 w W P v ts l m) (ho : OwnT w w0.heap.size v2 ts') (hv : (#[v, .int .i64 l, .int .i64 m] : Array Value).setIfInBounds i u = #[v2, .int .i64 l2, .int .i64 m2]) : RS w0 (w.setCell ⟨w0.heap.size + 1, i, none⟩ u) W P v2 ts' l2 m2 := by
  have oth : ∀ k, k ≠ w0.heap.size + 1 → (w.setCell ⟨w0.heap.size + 1, i, none⟩ u).heap[k]? = w.heap[k]? := fun k hk => Below.heap_setCell w ⟨w0.heap.size + 1, i, none⟩ u k hk
  refine ⟨h.below.setCell (p := ⟨w0.heap.size + 1, i, none⟩) (Nat.le_succ _) u, (oth _ (by omega)).trans h.res, ?_, (oth _ (by omega)).trans h.words, (oth _ (by omega)).trans h.pcs, ho.keep fun k hk => oth k fun e => ?_⟩
  · rw [← hv]; exact heap_set_at h.box u
  · obtain ⟨_, _, cur, hc⟩ := ho.block k hk
    rw [e, h.box] at hc
    injection hc with hc; injection hc with _ hc _; cases hc
theorem RS.grown (h : RS w0 w W P v ts l m) (ho : OwnT w' w0.heap.size v' ts') (hg : w.grownBy w' v.ownBlock) : RS w0 (w'.setCell ⟨w0.heap.size + 1, 0, none⟩ v') W P v' ts' l m := by
  have old : ∀ (k : Nat) (c : Array Value) (t : TypeId), w.heap[k]? = some (Obj.cells c t (0, 0)) → t ≠ 35 → w'.heap[k]? = some (Obj.cells c t (0, 0)) := fun k c t hk ht => (hg.block k (lt_of_block hk) (h.other hk ht)).trans hk
  have hb := old _ _ _ h.box (by decide)
  have oth : ∀ k, k ≠ w0.heap.size + 1 → (w'.setCell ⟨w0.heap.size + 1, 0, none⟩ v').heap[k]? = w'.heap[k]? := fun k hk => Below.heap_setCell w' ⟨w0.heap.size + 1, 0, none⟩ v' k hk
  refine ⟨(h.below.grown hg h.below.size (fun k hk => (h.own.block k hk).1)).setCell (p := ⟨w0.heap.size + 1, 0, none⟩) (Nat.le_succ _) v', (oth _ (by omega)).trans (old _ _ _ h.res (by decide)), heap_set_at hb v', (oth _ (by omega)).trans (old _ _ _ h.words (by decide)), (oth _ (by omega)).trans (old _ _ _ h.pcs (by decide)), ho.keep fun k hk => oth k fun e => ?_⟩
  obtain ⟨_, _, cur, hc⟩ := ho.block k hk
  rw [e, hb] at hc
  injection hc with hc; injection hc with _ hc _; cases hc
theorem strs_at {w : World} {g : Nat} {L : List ByteArray} (h : w.heap[g]? = some (.cells (L.map Value.string).toArray 9 (0, 0))) {i : Nat} (hi : i < L.length) : w.cell? ⟨g, i, none⟩ = some (.string (L.getD i ⟨#[]⟩)) := by
  unfold World.cell?
  rw [h]
  show (L.map Value.string).toArray[i]? = _
  simp [List.getD_eq_getElem?_getD, hi]
end Go.Proofs.YtikkocdbaekjmaaGreatDoor
