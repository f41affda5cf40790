/- A slice of bytes that the call itself fills: one byte behind, and the string of it. Whatever the program. -/
import Derived.WalkKit
import Derived.Laws.BytesArg
import Derived.OwnWalk
namespace Go.Proofs.YtfcalpfpfibbfaaDoor
open Go.RowKit

/-- v owns the bytes xs in a block from base on. -/
def ownsB (w : World) (base : Nat) (e : TypeId) (v : Value) (xs : List Int) : Prop := w.ownsRow base e 1 v xs.length (xs.map (Value.int .u8))

theorem ownsB_nil (w : World) (base : Nat) (e : TypeId) : ownsB w base e (.slice none 0 0) [] := World.ownsRow_nil w base e 1
theorem ownsB_same {w w' : World} {base : Nat} {e : TypeId} {v : Value} {xs : List Int} (h : ownsB w base e v xs) (hg : w.grownBy w' none) : ownsB w' base e v xs :=
  World.ownsRow.kept h hg (by cases hv : v.ownBlock <;> simp)
theorem ownsB_below {w w' : World} {base : Nat} {e : TypeId} {v : Value} {xs : List Int} (h : ownsB w base e v xs) (hb : Below w.heap.size w w') : ownsB w' base e v xs :=
  ownsB_same h ⟨hb.os, hb.tape, hb.output, hb.size, fun k hk _ => hb.block k hk⟩

theorem append_byte {P : Program} {w : World} {ops : Array Oper} {rest : List Oper} {o : Oper} {a : Act} {Q : Exit → Act → World → Prop} (hgd : o.guard = none) (s x : Operand) (t : TypeId)
    (ho : o.op = .call { callee := .builtin .append, args := #[s, x], argTypes := #[t, t] })
    (base : Nat) (e : TypeId) (ht : P.underlying t = some (.slice e)) (hi : (P.info? e).map (fun i => (i.zero, i.size, i.bytes)) = some (some (.int .u8 0), 1, 1))
    (v : Value) (xs : List Int) (hs : a.eval s = v) (hown : ownsB w base e v xs) (b : Int) (hx : a.eval x = .slice (some ⟨w.heap.size, 0, none⟩) 1 1)
    (hlen : xs.length + 1 ≤ 140737488355328) (hbase : base ≤ w.heap.size)
    (h : ∀ v' w', ownsB w' base e v' (xs ++ [b]) → Below base w w' → wpList P ops Q rest (a.put o.dst v') w') : wpList P ops Q (o :: rest) a (w.alloc (.cells #[.int .u8 b] e)) := by
  obtain ⟨i0, hi0, hz0, hz1, hz2⟩ := info_parts hi
  refine wpList_append_own _ hgd s x t ho base e i0 (.int .u8 0) 1 1 ht hi0 hz0 hz1 hz2 rfl (by decide) v xs.length (xs.map (Value.int .u8)) hs (World.ownsRow.alloc hown _) ⟨w.heap.size, 0, none⟩ 1 1 [.int .u8 b] hx rfl ?_ ?_ ?_ (by omega) (by simp; omega) ?_
  · intro j u hj
    match j, hj with
    | 0, hj =>
      simp at hj; subst hj
      have e0 : (⟨w.heap.size, 0, none⟩ : Addr).add 0 = ⟨w.heap.size, 0, none⟩ := by simp [Addr.add]
      rw [e0, World.cell?, heap_alloc_new]
      rfl
  · intro u hu; simp at hu; subst hu; rfl
  · unfold maxLen; omega
  · intro v' w' h1 hg _
    refine h v' w' ?_ ?_
    · unfold ownsB
      simpa using h1
    · exact ((Below.refl base w).alloc hbase _).grown hg (by simp; omega) (fun k hk => (World.ownsRow.lt hown k hk).1)

theorem convert_own {P : Program} {w : World} {base : Nat} {e src dst : TypeId} {v : Value} {xs : List Int} (h : ownsB w base e v xs) (hs : P.underlying src = some (.slice e)) (he : P.underlying e = some (.int .u8)) (hd : P.underlying dst = some .string) :
    (convert src dst v).run P w = .ok (.string (strOfNums xs)) w := by
  rcases h.2 with ⟨rfl, h0⟩ | ⟨g, cap, cur, rfl, _⟩
  · obtain rfl : xs = [] := List.length_eq_zero_iff.1 h0
    rw [run_convert_bytes_nil w src e hs he 0 0 dst hd]
    rfl
  · refine run_convert_bytes_arg w src e hs he g 0 xs.length cap xs rfl ?_ dst hd
    intro i hi
    have hc := World.ownsRow.cells h (g := g) rfl i (.int .u8 (xs.getD i 0)) (by simp [List.getD, hi])
    have e0 : (⟨g, 0, none⟩ : Addr).add i = ⟨g, 0 + i, none⟩ := by unfold Addr.add; split <;> simp_all
    rwa [e0] at hc
end Go.Proofs.YtfcalpfpfibbfaaDoor
