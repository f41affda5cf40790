/- A list of lists of texts of the call's own: no two share a block; it grows by one list. -/
import Derived.Test.YtnodjcapclkmhaaDoorOwnN
namespace Go.Proofs.YtnodjcapclkmhaaDoor
open Go.RowKit

/-- v is a list of the values vals V n of its own, each of them a list of texts of its own, from base on. -/
structure Lists (w : World) (base : Nat) (v : Value) (n : Nat) (V : Nat → Value) (L : Nat → List ByteArray) : Prop where
  row : w.ownsRow base 28 1 v n (vals V n)
  fam : Fam w base n V L
  nil : n = 0 → v = .slice none 0 0

theorem Lists.none (w : World) (base : Nat) (V : Nat → Value) (L : Nat → List ByteArray) : Lists w base (.slice none 0 0) 0 V L :=
  ⟨⟨rfl, .inl ⟨rfl, rfl⟩⟩, ⟨fun _ hi => absurd hi (Nat.not_lt_zero _), fun _ _ hi => absurd hi (Nat.not_lt_zero _)⟩, fun _ => rfl⟩
theorem Lists.form {w : World} {base n : Nat} {v : Value} {V : Nat → Value} {L : Nat → List ByteArray} (h : Lists w base v n V L) : ∃ A c, v = .slice A n c := by
  rcases h.row.2 with ⟨rfl, h0⟩ | ⟨g, cap, cur, rfl, _⟩
  · exact ⟨Option.none, 0, by rw [h0]⟩
  · exact ⟨_, _, rfl⟩
theorem Lists.block {w : World} {base n k : Nat} {v : Value} {V : Nat → Value} {L : Nat → List ByteArray} (h : Lists w base v n V L) (hk : v.ownBlock = some k) : ∃ cur, w.heap[k]? = some (.cells cur 28 (0, 0)) ∧ ∀ i, i < n → cur[i]? = some (V i) := by
  rcases h.row.2 with ⟨rfl, _⟩ | ⟨g, cap, cur, rfl, _, hg, h1, h2, h3, h4⟩
  · cases hk
  · obtain rfl : g = k := Option.some.inj hk
    refine ⟨cur, hg, fun i hi => ?_⟩
    have h5 : (cur.toList.take (n * 1))[i]? = some (V i) := by rw [h4]; exact vals_at hi
    rw [List.getElem?_take_of_lt (by omega)] at h5
    simpa using h5
/-- No list of texts lies in the block of the list of lists. -/
theorem Lists.ne {w : World} {base n i : Nat} {v : Value} {V : Nat → Value} {L : Nat → List ByteArray} (h : Lists w base v n V L) (hi : i < n) : (V i).ownBlock = Option.none ∨ (V i).ownBlock ≠ v.ownBlock := by
  cases hv : v.ownBlock with
  | none => cases (V i).ownBlock <;> simp
  | some k =>
    obtain ⟨cur, hg, _⟩ := h.block hv
    exact .inr ((h.fam.own i hi).ne_of hg)
theorem Lists.lt {w : World} {base n : Nat} {v : Value} {V : Nat → Value} {L : Nat → List ByteArray} (h : Lists w base v n V L) : (∀ k, v.ownBlock = some k → base ≤ k ∧ k < w.heap.size) ∧ ∀ i k, i < n → (V i).ownBlock = some k → base ≤ k ∧ k < w.heap.size :=
  ⟨World.ownsRow.lt h.row, fun i k hi hk => World.ownsRow.lt (h.fam.own i hi) k hk⟩
/-- A block of another type is none of theirs. -/
theorem Lists.other {w : World} {base n g t : Nat} {v : Value} {V : Nat → Value} {L : Nat → List ByteArray} {cs : Array Value} {fr : Nat × Nat} (h : Lists w base v n V L) (hg : w.heap[g]? = some (.cells cs t fr)) (h1 : t ≠ 9) (h2 : t ≠ 28) : v.ownBlock ≠ some g ∧ ∀ i, i < n → (V i).ownBlock ≠ some g := by
  refine ⟨fun e => ?_, fun i hi e => ?_⟩
  · obtain ⟨cur, hk, _⟩ := h.block e
    rw [hg] at hk
    injection hk with hk
    injection hk with _ h3 _
    exact h2 h3
  · obtain ⟨cur, hk⟩ := (h.fam.own i hi).block e
    rw [hg] at hk
    injection hk with hk
    injection hk with _ h3 _
    exact h1 h3
theorem Lists.grown {w w' : World} {base n : Nat} {v : Value} {V : Nat → Value} {L : Nat → List ByteArray} {b : Option Nat} (h : Lists w base v n V L) (hg : w.grownBy w' b) (h1 : v.ownBlock = Option.none ∨ v.ownBlock ≠ b) (h2 : ∀ i, i < n → (V i).ownBlock = Option.none ∨ (V i).ownBlock ≠ b) : Lists w' base v n V L :=
  ⟨World.ownsRow.kept h.row hg h1, ⟨fun i hi => (h.fam.own i hi).kept hg (h2 i hi), h.fam.apart⟩, h.nil⟩
theorem Lists.below {w w' : World} {base n : Nat} {v : Value} {V : Nat → Value} {L : Nat → List ByteArray} (h : Lists w base v n V L) (hb : Below w.heap.size w w') : Lists w' base v n V L :=
  h.grown (b := Option.none) ⟨hb.os, hb.tape, hb.output, hb.size, fun k hk _ => hb.block k hk⟩ (by cases v.ownBlock <;> simp) (fun i _ => by cases (V i).ownBlock <;> simp)
theorem Lists.wrote {w w' : World} {base n g t : Nat} {v : Value} {V : Nat → Value} {L : Nat → List ByteArray} {cs : Array Value} {fr : Nat × Nat} (h : Lists w base v n V L) (hw : Wrote w w' g Option.none Option.none) (hg : w.heap[g]? = some (.cells cs t fr)) (h1 : t ≠ 9) (h2 : t ≠ 28) : Lists w' base v n V L :=
  h.grown hw.grown (.inr (h.other hg h1 h2).1) (fun i hi => .inr ((h.other hg h1 h2).2 i hi))
theorem Lists.mono {w : World} {base base' n : Nat} {v : Value} {V : Nat → Value} {L : Nat → List ByteArray} (h : Lists w base v n V L) (hb : base' ≤ base) : Lists w base' v n V L :=
  ⟨⟨h.row.1, h.row.2.imp id fun ⟨g, cap, cur, hv, hg, rest⟩ => ⟨g, cap, cur, hv, Nat.le_trans hb hg, rest⟩⟩, ⟨fun i hi => (h.fam.own i hi).mono hb, h.fam.apart⟩, h.nil⟩
/-- Behind the append of the list x. -/
theorem Lists.add {w w' : World} {base n g cap : Nat} {v x : Value} {V : Nat → Value} {L : Nat → List ByteArray} {l : List ByteArray} (h : Lists w base v n V L) (hx : ownsT w base x l) (hnew : ∀ i, i < n → ∀ k, x.ownBlock = some k → (V i).ownBlock ≠ some k)
    (hvx : ∀ k, x.ownBlock = some k → v.ownBlock ≠ some k)
    (ho : w'.ownsRow base 28 1 (.slice (some ⟨g, 0, Option.none⟩) (n + 1) cap) (n + 1) (vals V n ++ [x])) (hg : w.grownBy w' v.ownBlock) : Lists w' base (.slice (some ⟨g, 0, Option.none⟩) (n + 1) cap) (n + 1) (upd V n x) (upd L n l) := by
  have e : vals (upd V n x) (n + 1) = vals V n ++ [x] := by
    unfold vals
    rw [List.range_succ, List.map_append]
    congr 1
    · refine List.map_congr_left fun i hi => ?_
      rw [upd_ne]; have := List.mem_range.1 hi; omega
    · show [upd V n x n] = _
      rw [upd_at]
  refine ⟨by rw [e]; exact ho, ⟨fun i hi => ?_, fun i j hi hj hij => ?_⟩, fun h => by omega⟩
  · by_cases hin : i = n
    · subst hin
      rw [upd_at, upd_at]
      refine hx.kept hg ?_
      cases hb : x.ownBlock with
      | none => exact .inl rfl
      | some k => exact .inr (fun e => hvx k hb e.symm)
    · rw [upd_ne _ _ hin, upd_ne _ _ hin]
      exact (h.fam.own i (by omega)).kept hg (h.ne (by omega))
  · by_cases hin : i = n
    · subst hin
      rw [upd_at, upd_ne _ _ (Ne.symm hij)]
      cases hb : x.ownBlock with
      | none => exact .inl rfl
      | some k => exact .inr (fun e => hnew j (by omega) k hb e.symm)
    · rw [upd_ne _ _ hin]
      by_cases hjn : j = n
      · subst hjn
        rw [upd_at]
        cases hb : x.ownBlock with
        | none => cases (V i).ownBlock <;> simp
        | some k => exact .inr (fun e => hnew i (by omega) k hb e)
      · rw [upd_ne _ _ hjn]
        exact h.fam.apart i j (by omega) (by omega) hij

/-- Lists in a cell apart. -/
theorem Lists.upd_sizes {n M : Nat} {L : Nat → List ByteArray} {l : List ByteArray} (h : ∀ i, i < n → (L i).length ≤ M) (hl : l.length ≤ M) : ∀ i, i < n + 1 → ((upd L n l) i).length ≤ M := fun i hi => by
  by_cases e : i = n
  · subst e; rw [upd_at]; exact hl
  · rw [upd_ne _ _ e]; exact h i (by omega)

/-- One list behind. -/
theorem run_list (w : World) (ty : TypeId) (base n : Nat) (v x : Value) (V : Nat → Value) (L : Nat → List ByteArray) (l : List ByteArray) (h : Lists w base v n V L) (hx : ownsT w base x l) (hnew : ∀ i, i < n → ∀ k, x.ownBlock = some k → (V i).ownBlock ≠ some k)
    (hvx : ∀ k, x.ownBlock = some k → v.ownBlock ≠ some k) (k : Nat) (hk : w.heap[k]? = some (.cells #[x] 28 (0, 0))) (hlen : n + 1 ≤ 4000000000) (hbase : base ≤ w.heap.size) :
    ∃ g cap w', (Builtin.append_ #[41, 41] ty #[v, .slice (some ⟨k, 0, Option.none⟩) 1 1]).run Tryd.prog w = .ok (.slice (some ⟨g, 0, Option.none⟩) (n + 1) cap) w' ∧ Lists w' base (.slice (some ⟨g, 0, Option.none⟩) (n + 1) cap) (n + 1) (upd V n x) (upd L n l) ∧ w.grownBy w' v.ownBlock ∧ (v.ownBlock = some g ∨ g = w.heap.size) := by
  obtain ⟨i0, hi0, hz0, hz1, hz2⟩ := info_parts info28
  have hone : ∀ u ∈ [x], u.oneCell' = true := fun u hu => by
    simp at hu; subst hu
    obtain ⟨A, c, rfl⟩ := hx.form
    rfl
  obtain ⟨g, cap, w', hr, h2, h3, h4, _⟩ := run_append_lies (P := Tryd.prog) w 41 ty base 28 i0 (.slice Option.none 0 0) 1 24 Tryd.underlying41 hi0 hz0 hz1 hz2 rfl (by decide) v n (vals V n) h.row ⟨k, 0, Option.none⟩ 1 1 [x] rfl (World.news_of_block hk) hone (by omega) (by unfold maxLen; omega) (by omega) hbase _ rfl
  exact ⟨g, cap, w', hr, h.add hx hnew hvx h2 h3, h3, h4⟩
section
variable {w : World} {ops : Array Oper} {rest : List Oper} {o : Oper} {a : Act} {Q : Exit → Act → World → Prop}
theorem append_list (hgd : o.guard = none) (s y : Operand) (ho : o.op = .call { callee := .builtin .append, args := #[s, y], argTypes := #[41, 41] })
    (base n : Nat) (v x : Value) (V : Nat → Value) (L : Nat → List ByteArray) (l : List ByteArray) (hs : a.eval s = v) (h : Lists w base v n V L) (hx : ownsT w base x l) (hnew : ∀ i, i < n → ∀ k, x.ownBlock = some k → (V i).ownBlock ≠ some k)
    (hvx : ∀ k, x.ownBlock = some k → v.ownBlock ≠ some k) (hy : a.eval y = .slice (some ⟨w.heap.size, 0, Option.none⟩) 1 1) (hlen : n + 1 ≤ 4000000000) (hbase : base ≤ w.heap.size)
    (hq : ∀ g cap w', Lists w' base (.slice (some ⟨g, 0, Option.none⟩) (n + 1) cap) (n + 1) (upd V n x) (upd L n l) → w.grownBy w' v.ownBlock → (v.ownBlock = some g ∨ w.heap.size ≤ g) → wpList Tryd.prog ops Q rest (a.put o.dst (.slice (some ⟨g, 0, Option.none⟩) (n + 1) cap)) w') :
    wpList Tryd.prog ops Q (o :: rest) a (w.alloc (.cells #[x] 28)) := by
  refine wpList_plain hgd fun K hK => ?_
  have hb := Below.new w (.cells #[x] 28)
  obtain ⟨g, cap, w', hr, h2, h3, h4⟩ := run_list (w.alloc (.cells #[x] 28)) o.type base n v x V L l (h.below hb) (hx.kept (b := Option.none) ⟨hb.os, hb.tape, hb.output, hb.size, fun k hk _ => hb.block k hk⟩ (by cases x.ownBlock <;> simp)) hnew hvx w.heap.size (heap_alloc_new w _) hlen (Nat.le_trans hbase hb.size)
  unfold Oper.wp execOp
  simp only [ho, resolve, invoke, builtin, Sem.run_bind, Sem.run_pure, Result.andThen_ok, List.map_toArray, List.map_cons, List.map_nil, hs, hy, hr]
  refine hK _ _ (hq g cap w' h2 (World.grownBy.trans (World.grownBy_alloc w _ _) h3) ?_)
  rcases h4 with h4 | h4
  · exact .inl h4
  · right; rw [h4]; simp
end

/-- OwnTexts of such lists. -/
theorem own_lists (base n : Nat) (v : Value) (V : Nat → Value) (L : Nat → List ByteArray) (w : World) (h : Lists w base v n V L) (hn : n ≤ 4000000) (hL : ∀ i, i < n → (L i).length ≤ 4000000) (hbase : base ≤ w.heap.size) :
    Calls Tryd.prog 21 #[v] w fun e w' => e = .returned (.bool true) ∧ Below base w w' ∧ ∀ k, k < w.heap.size → (∀ i, i < n → (V i).ownBlock ≠ some k) → w'.heap[k]? = w.heap[k]? := by
  rcases Nat.eq_zero_or_pos n with h0 | h0
  · rw [h.nil h0]
    exact (own_nil w).mono fun e w' ⟨h1, h2⟩ => ⟨h1, h2.mono hbase, fun k hk _ => h2.block k hk⟩
  · obtain ⟨g, c, rfl, hb, hg⟩ := h.row.form h0
    obtain ⟨cur, hcur, hV⟩ := h.block (k := g) rfl
    exact own_any g n c base V L (fun i => (L i).length) cur w h0 hn h.fam (fun i hi => ⟨rfl, hL i hi⟩) hcur hV hbase
end Go.Proofs.YtnodjcapclkmhaaDoor
