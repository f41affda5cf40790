/- A row appended to a row, either of which may be empty. -/
import Derived.Deep.AppendLies
import Derived.Deep.Upon
import Derived.WalkKit
namespace Go.Proofs.YtikkocdbaekjmaaGreatDoor
open Go Go.RowKit

theorem ownsRow_src {P : Program} {w : World} {B : Nat} {e t : TypeId} {z : Nat} {v : Value} {ys : List Value} (ht : P.underlying t = some (.slice e)) (h : w.ownsRow B e z v 0 ys) : Src P z t v 0 [] w := by
  rcases h.2 with ⟨rfl, _⟩ | ⟨g, cap, cur, rfl, _⟩
  · exact Src.ofNil w ht 0
  · exact Src.ofSlice w ht ⟨g, 0, none⟩ 0 cap [] (by simp) (by simp) (by simp)
theorem ownsRow_shape {w : World} {B : Nat} {e : TypeId} {z n : Nat} {v : Value} {xs : List Value} (h : w.ownsRow B e z v n xs) : ∃ ao cap, v = .slice ao n cap ∧ n ≤ cap := by
  rcases h.2 with ⟨rfl, rfl⟩ | ⟨g, cap, cur, rfl, _, _, hn, _⟩
  · exact ⟨_, _, rfl, Nat.le_refl _⟩
  · exact ⟨_, _, rfl, hn⟩
section
variable {P : Program} {w : World} {ops : Array Oper} {rest : List Oper} {o : Oper} {a : Act} {Q : Exit → Act → World → Prop}
theorem wpList_append_rows (hgd : o.guard = none) (s x : Operand) (t : TypeId)
    (ho : o.op = .call { callee := .builtin .append, args := #[s, x], argTypes := #[t, t] })
    (base : Nat) (e : TypeId) (i : TypeInfo) (z : Value) (size bytes : Nat) (ht : P.underlying t = some (.slice e)) (hi : P.info? e = some i) (hz : i.zero = some z)
    (hsize : i.size = size) (hby : i.bytes = bytes) (hzs : z.cells.size = size) (hsz : 0 < size)
    (v : Value) (n : Nat) (xs : List Value) (hs : a.eval s = v) (hown : w.ownsRow base e size v n xs)
    (base2 : Nat) (u : Value) (m : Nat) (ys : List Value) (hx : a.eval x = u) (hsrc : w.ownsRow base2 e size u m ys) (h1 : ∀ y ∈ ys, y.oneCell' = true)
    (h63 : n + m ≤ maxLen) (hbytes : (n + m) * bytes ≤ 140737488355328) (hbase : base ≤ w.heap.size)
    (h : ∀ v' w', w'.ownsRow base e size v' (n + m) (xs ++ ys) → w.grownBy w' v.ownBlock → (v'.ownBlock = v.ownBlock ∨ v'.ownBlock = some w.heap.size) → wpList P ops Q rest (a.put o.dst v') w') :
    wpList P ops Q (o :: rest) a w := by
  rcases Nat.eq_zero_or_pos m with h0 | h0
  · subst h0
    obtain ⟨ao, cap, rfl, hn⟩ := ownsRow_shape hown
    obtain ⟨bo, cap2, rfl, _⟩ := ownsRow_shape hsrc
    have hr := run_append_nothing w t t o.type e i ht hi ao n cap hn _ (by rw [hsize]; exact ownsRow_src ht hsrc)
    have hys : ys = [] := List.length_eq_zero_iff.1 (by have := hsrc.1; omega)
    subst hys
    refine wpList_plain hgd fun _ hK => ?_
    unfold Oper.wp execOp
    simp only [ho, resolve, invoke, builtin, Sem.run_bind, Sem.run_pure, Result.andThen_ok, List.map_toArray, List.map_cons, List.map_nil, hs, hx, hr]
    exact hK _ _ (h _ w (by simpa using hown) ⟨rfl, rfl, rfl, Nat.le_refl _, fun _ _ _ => rfl⟩ (.inl rfl))
  · obtain ⟨g, cap, rfl, _, _⟩ := hsrc.form h0
    exact wpList_append_lies w hgd s x t ho base e i z size bytes ht hi hz hsize hby hzs hsz v n xs hs hown ⟨g, 0, none⟩ m cap ys hx hsrc.1 (hsrc.cells (g := g) rfl) h1 h0 h63 hbytes hbase _ rfl
      fun g' cap' w' h2 h3 h4 _ => h _ w' h2 h3 (by
        rcases h4 with h4 | h4
        · exact .inl h4.symm
        · exact .inr (by rw [← h4]; rfl))
end
end Go.Proofs.YtikkocdbaekjmaaGreatDoor
