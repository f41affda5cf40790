/- A row of Ops of the call's own; its append; the bytes of many Ops. -/
import Derived.Test.YtnodjcapclkmhaaDoorShortW
namespace Go.Proofs.YtnodjcapclkmhaaDoor
open Go.RowKit

theorem info30 : (Tryd.prog.info? 30).map (fun i => (i.zero, i.size, i.bytes)) = some (some (.agg #[.int .i64 0, .bool false, .int .u64 0, .int .i64 0, .int .i64 0, .int .i64 0, .string ⟨#[]⟩, .slice none 0 0]), 8, 88) := by kernel_rfl
def opC (o : OpV) : List Value := [.int .i64 o.k, .bool o.sec, .int .u64 o.u, .int .i64 o.i, .int .i64 o.n, .int .i64 o.m, .string o.s, .slice o.A o.ln o.lc]
def opsC : List OpV → List Value
  | [] => []
  | o :: l => opC o ++ opsC l
theorem opsC_app (a b : List OpV) : opsC (a ++ b) = opsC a ++ opsC b := by
  induction a with
  | nil => rfl
  | cons o a ih => show opC o ++ opsC (a ++ b) = opC o ++ opsC a ++ opsC b; rw [ih, List.append_assoc]
theorem opsC_length : ∀ l : List OpV, (opsC l).length = l.length * 8
  | [] => rfl
  | o :: l => by
    show (opC o ++ opsC l).length = _
    rw [List.length_append, opsC_length l, List.length_cons]
    show 8 + _ = _
    omega
theorem opsC_at : ∀ (l : List OpV) (j : Nat) (h : j < l.length) (i : Nat), i < 8 → (opsC l)[j * 8 + i]? = (opC l[j])[i]?
  | o :: l, 0, _, i, hi => by
    show (opC o ++ opsC l)[0 * 8 + i]? = _
    rw [Nat.zero_mul, Nat.zero_add, List.getElem?_append_left (show i < 8 from hi)]
    rfl
  | o :: l, j + 1, h, i, hi => by
    show (opC o ++ opsC l)[(j + 1) * 8 + i]? = _
    rw [show (j + 1) * 8 + i = 8 + (j * 8 + i) by omega, List.getElem?_append_right (show 8 ≤ _ by omega), show 8 + (j * 8 + i) - (opC o).length = j * 8 + i by show 8 + _ - 8 = _; omega]
    exact opsC_at l j (by simpa using h) i hi
/-- v is a list of the Ops L of its own, from base on. -/
def ownsO (w : World) (base : Nat) (v : Value) (L : List OpV) : Prop := w.ownsRow base 30 8 v L.length (opsC L)
theorem ownsO.nil (w : World) (base : Nat) : ownsO w base (.slice none 0 0) [] := ⟨rfl, .inl ⟨rfl, rfl⟩⟩
theorem ownsO.wrote {w w' : World} {base g : Nat} {r r' : Option Nat} {v : Value} {L : List OpV} (h : ownsO w base v L) (hw : Wrote w w' g r r') (h1 : v.ownBlock ≠ some g) (h2 : v.ownBlock = none ∨ v.ownBlock ≠ r) : ownsO w' base v L := by
  refine ⟨h.1, ?_⟩
  rcases h.2 with hn | ⟨k, cap, cur, rfl, hb, hk, rest⟩
  · exact .inl hn
  · refine .inr ⟨k, cap, cur, rfl, hb, ?_, rest⟩
    have hlt := (World.ownsRow.lt h k rfl).2
    rw [hw.block k hlt (fun e => h1 (by rw [e]; rfl)) (fun e => by rcases h2 with h3 | h3; cases h3; exact h3 e)]
    exact hk
theorem ownsO.below {w w' : World} {base B : Nat} {v : Value} {L : List OpV} (h : ownsO w base v L) (hb : Below B w w') (hB : w.heap.size ≤ B) : ownsO w' base v L := by
  refine ⟨h.1, ?_⟩
  rcases h.2 with hn | ⟨k, cap, cur, rfl, hbk, hk, rest⟩
  · exact .inl hn
  · have hlt := (World.ownsRow.lt h k rfl).2
    exact .inr ⟨k, cap, cur, rfl, hbk, (hb.block k (by omega)).trans hk, rest⟩
theorem ownsO.form {w : World} {b : Nat} {v : Value} {L : List OpV} (h : ownsO w b v L) : ∃ A c, v = .slice A L.length c := by
  rcases h.2 with ⟨rfl, h0⟩ | ⟨g, cap, cur, rfl, _⟩
  · exact ⟨none, 0, by rw [h0]⟩
  · exact ⟨some ⟨g, 0, none⟩, cap, rfl⟩
theorem ownsO.at {w : World} {b n c j : Nat} {A : Option Addr} {L : List OpV} (h : ownsO w b (.slice A n c) L) (hj : j < L.length) : ∃ g, A = some ⟨g, 0, none⟩ ∧ g < w.heap.size ∧ ∀ i u, i < 8 → (opC L[j])[i]? = some u → w.cell? ⟨g, j * 8 + i, none⟩ = some u := by
  rcases h.2 with ⟨_, h0⟩ | ⟨g, cap, cur, hv, _⟩
  · rw [h0] at hj; exact absurd hj (Nat.not_lt_zero _)
  · cases hv
    refine ⟨g, rfl, (World.ownsRow.lt h g rfl).2, fun i u hi hu => ?_⟩
    have := World.ownsRow.cells h (g := g) rfl (j * 8 + i) u (by rw [opsC_at L j hj i hi]; exact hu)
    rw [show (⟨g, 0, none⟩ : Addr).add (j * 8 + i) = ⟨g, j * 8 + i, none⟩ by unfold Addr.add; split <;> simp_all] at this
    exact this
theorem Buf.grown {w w' : World} {B h : Nat} {t e : TypeId} {xs : List Int} {r q : Option Nat} (hb : Buf w B h t e xs r) (hg : w.grownBy w' q) (h1 : q ≠ some h) (h2 : q = none ∨ q ≠ r) : Buf w' B h t e xs r := by
  obtain ⟨l1, l2, l3⟩ := hb.lt
  obtain ⟨v, k1, k2, k3, k4, k5⟩ := hb
  refine ⟨v, (hg.block h l2 (fun e => h1 e.symm)).trans k1, k2, ⟨k3.1, ?_⟩, k4, k5⟩
  rcases k3.2 with hn | ⟨gg, cap, cur, rfl, hbk, hgg, rest⟩
  · exact .inl hn
  · have hr : r = some gg := k4.symm
    refine .inr ⟨gg, cap, cur, rfl, hbk, (hg.block gg (l3 gg hr).2 (fun e => ?_)).trans hgg, rest⟩
    rcases h2 with h2 | h2
    · rw [h2] at e; cases e
    · exact h2 (by rw [hr]; exact e.symm)

section
variable {P : Program} {w : World} {ops : Array Oper} {rest : List Oper} {o : Oper} {a : Act} {Q : Exit → Act → World → Prop}
/-- One Op behind. -/
theorem append_op (hgd : o.guard = none) (s x : Operand)
    (ho : o.op = .call { callee := .builtin .append, args := #[s, x], argTypes := #[22, 22] })
    (B : Nat) (v : Value) (L : List OpV) (hs : a.eval s = v) (hown : ownsO w B v L) (b : OpV) (hx : a.eval x = .slice (some ⟨w.heap.size, 0, none⟩) 1 1)
    (hlen : L.length + 1 ≤ 1000000000) (hbase : B ≤ w.heap.size)
    (h : ∀ k cap w', ownsO w' B (.slice (some ⟨k, 0, none⟩) (L.length + 1) cap) (L ++ [b]) → w.grownBy w' v.ownBlock → (v.ownBlock = some k ∨ w.heap.size ≤ k) → wpList Tryd.prog ops Q rest (a.put o.dst (.slice (some ⟨k, 0, none⟩) (L.length + 1) cap)) w') :
    wpList Tryd.prog ops Q (o :: rest) a (w.alloc (.cells #[.int .i64 b.k, .bool b.sec, .int .u64 b.u, .int .i64 b.i, .int .i64 b.n, .int .i64 b.m, .string b.s, .slice b.A b.ln b.lc] 30)) := by
  obtain ⟨i0, hi0, hz0, hz1, hz2⟩ := info_parts info30
  refine wpList_append_lies _ hgd s x 22 ho B 30 i0 _ 8 88 Tryd.underlying22 hi0 hz0 hz1 hz2 rfl (by decide) v L.length (opsC L) hs (World.ownsRow.alloc hown _) ⟨w.heap.size, 0, none⟩ 1 1 (opC b) hx rfl (World.news_of_block (heap_alloc_new w _)) ?_ (by omega) ?_ (by omega) (by simp; omega) _ rfl ?_
  · intro u hu
    simp only [opC, List.mem_cons, List.not_mem_nil, or_false] at hu
    rcases hu with rfl | rfl | rfl | rfl | rfl | rfl | rfl | rfl <;> rfl
  · unfold maxLen; omega
  · intro k cap w' h1 hg hat _
    refine h k cap w' ?_ (World.grownBy.trans (World.grownBy_alloc w _ _) hg) (hat.imp id (fun e => by rw [e]; simp))
    unfold ownsO
    rw [opsC_app, List.length_append]
    simpa [opsC] using h1
end

/-- The bytes of many Ops. -/
def allL : List OpV → List Int
  | [] => []
  | o :: l => putL o ++ allL l
theorem allL_app (a b : List OpV) : allL (a ++ b) = allL a ++ allL b := by
  induction a with
  | nil => rfl
  | cons o a ih => show putL o ++ allL (a ++ b) = putL o ++ allL a ++ allL b; rw [ih, List.append_assoc]
theorem byteL_all : ∀ l : List OpV, byteL (allL l)
  | [] => fun x hx => by cases hx
  | o :: l => byteL_app (byteL_put o) (byteL_all l)
theorem Pre.at {s : ByteArray} {p : Nat} : ∀ (L : List OpV) (j : Nat) (h : j < L.length), Pre s p (allL L) → Pre s (p + (allL (L.take j)).length) (putL L[j])
  | o :: L, 0, _, hp => by
    have := (Pre.app hp).1
    exact this
  | o :: L, j + 1, h, hp => by
    have h1 := (Pre.app hp).2
    have hj : j < L.length := by simpa using h
    have := Pre.at L j hj h1
    show Pre s (p + (putL o ++ allL (L.take j)).length) (putL (L[j]'hj))
    rw [List.length_append, ← Nat.add_assoc]
    exact this
/-- Those of the first k Ops that have a value. -/
def pick (ops : Nat → OpV) : Nat → List OpV
  | 0 => []
  | k + 1 => if okK (ops k) then pick ops k ++ [ops k] else pick ops k
theorem pick_len (ops : Nat → OpV) : ∀ k, (pick ops k).length ≤ k
  | 0 => Nat.le_refl _
  | k + 1 => by
    unfold pick; have := pick_len ops k
    split
    · rw [List.length_append]; simp; omega
    · omega
theorem mem_pick {ops : Nat → OpV} : ∀ {k : Nat} {o : OpV}, o ∈ pick ops k → ∃ i, i < k ∧ o = ops i ∧ okK o = true
  | k + 1, o, h => by
    unfold pick at h
    split at h
    · rename_i hk
      rcases List.mem_append.1 h with h | h
      · obtain ⟨i, hi, e, ho⟩ := mem_pick h
        exact ⟨i, by omega, e, ho⟩
      · obtain rfl := List.mem_singleton.1 h
        exact ⟨k, by omega, rfl, hk⟩
    · obtain ⟨i, hi, e, ho⟩ := mem_pick h
      exact ⟨i, by omega, e, ho⟩
theorem pick_all (ops : Nat → OpV) : ∀ k, (allL (pick ops k)).length ≤ wsum ops k
  | 0 => Nat.le_refl _
  | k + 1 => by
    have ih := pick_all ops k
    unfold pick
    show _ ≤ wsum ops k + (putL (ops k)).length
    split
    · rw [allL_app, List.length_append]; simp [allL]; omega
    · omega
end Go.Proofs.YtnodjcapclkmhaaDoor
