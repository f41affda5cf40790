/- One text behind a list of the call's own: in its own block, or in a new one while the old one stays. -/
import Derived.Test.YtnodjcapclkmhaaDoorFam
import Derived.ArgAppend
import Derived.Laws.OwnMore
import Derived.Deep.RegionLaw
namespace Go.Proofs.YtnodjcapclkmhaaDoor
open Go.RowKit

/-- Where the longer list lies, and what is as it was. -/
def Went (w w' : World) (v : Value) (g : Nat) : Prop := (v.ownBlock = some g ∧ w.grownBy w' (some g)) ∨ (w.heap.size ≤ g ∧ w.grownBy w' none)
theorem run_grew (w : World) (ty : TypeId) (base : Nat) (v : Value) (L : List ByteArray) (hown : ownsT w base v L) (h : Nat) (b : ByteArray) (hb : w.heap[h]? = some (.cells #[.string b] 9 (0, 0))) (hlen : L.length + 1 ≤ 8796093022208) (hbase : base ≤ w.heap.size) :
    ∃ g cap w', (Builtin.append_ #[28, 28] ty #[v, .slice (some ⟨h, 0, none⟩) 1 1]).run Tryd.prog w = .ok (.slice (some ⟨g, 0, none⟩) (L.length + 1) cap) w' ∧ ownsT w' base (.slice (some ⟨g, 0, none⟩) (L.length + 1) cap) (L ++ [b]) ∧ Went w w' v g := by
  obtain ⟨i0, hi0, hz0, hz1, hz2⟩ := info_parts info9
  have hnews := World.news_of_block hb
  have hone : ∀ u ∈ [Value.string b], u.oneCell' = true := fun u hu => by simp at hu; subst hu; rfl
  have hT : ∀ w' g cap, w'.ownsRow base 9 1 (.slice (some ⟨g, 0, none⟩) (L.length + 1) cap) (L.length + 1) (L.map Value.string ++ [.string b]) → ownsT w' base (.slice (some ⟨g, 0, none⟩) (L.length + 1) cap) (L ++ [b]) := fun w' g cap hh => by
    unfold ownsT
    simpa using hh
  rcases hown.2 with ⟨hv, h0⟩ | ⟨g0, cap0, cur, hv, hbg, hg, _⟩
  · obtain ⟨g, cap, w', hr, h2, h3, h4, _⟩ := run_append_lies (P := Tryd.prog) w 28 ty base 9 i0 (.string ⟨#[]⟩) 1 16 Tryd.underlying28 hi0 hz0 hz1 hz2 rfl (by decide) v L.length (L.map Value.string) hown ⟨h, 0, none⟩ 1 1 [.string b] rfl hnews hone (by omega) (by unfold maxLen; omega) (by omega) hbase _ rfl
    refine ⟨g, cap, w', hr, hT _ _ _ h2, .inr ⟨?_, ?_⟩⟩
    · rcases h4 with h4 | h4
      · rw [hv] at h4; cases h4
      · omega
    · rw [hv] at h3; exact h3
  · subst hv
    by_cases hroom : L.length + 1 ≤ cap0
    · obtain ⟨w', hr, h2, h3⟩ := run_append_fits (P := Tryd.prog) (w := w) base 28 ty 9 i0 1 Tryd.underlying28 hi0 hz1 g0 L.length cap0 (L.map Value.string) hown ⟨h, 0, none⟩ 1 1 [.string b] rfl hnews hone hroom
      exact ⟨g0, cap0, w', hr, hT _ _ _ h2, .inl ⟨rfl, h3⟩⟩
    · obtain ⟨v', w', hr, h2, h3⟩ := run_append_arg_grows (P := Tryd.prog) (w := w) 28 ty 9 i0 (.string ⟨#[]⟩) 1 16 Tryd.underlying28 hi0 hz0 hz1 hz2 rfl (by decide) ⟨g0, 0, none⟩ L.length cap0 (L.map Value.string) hown.1 (World.ownsRow.cells hown rfl) ⟨h, 0, none⟩ 1 1 [.string b] rfl hnews (by omega) (by unfold maxLen; omega) (by omega)
      obtain ⟨g, cap, rfl, hgb, _⟩ := h2.form (by omega)
      have h4 : ownsT w' w.heap.size (.slice (some ⟨g, 0, none⟩) (L.length + 1) cap) (L ++ [b]) := by
        unfold ownsT
        simpa using h2
      exact ⟨g, cap, w', hr, h4.mono hbase, .inr ⟨hgb, h3⟩⟩

section
variable {w : World} {ops : Array Oper} {o : Oper} {a : Act} {K : Act → World → Prop} {Q : Exit → Act → World → Prop} {E : Prop}
/-- At a step of a region that draws its order. -/
theorem step_grew (hgd : o.guard = none) (s x : Operand) (ho : o.op = .call { callee := .builtin .append, args := #[s, x], argTypes := #[28, 28] })
    (base : Nat) (v : Value) (L : List ByteArray) (hs : a.eval s = v) (hown : ownsT w base v L) (h : Nat) (b : ByteArray) (hx : a.eval x = .slice (some ⟨h, 0, none⟩) 1 1) (hb : w.heap[h]? = some (.cells #[.string b] 9 (0, 0)))
    (hlen : L.length + 1 ≤ 8796093022208) (hbase : base ≤ w.heap.size)
    (hk : ∀ g cap w', ownsT w' base (.slice (some ⟨g, 0, none⟩) (L.length + 1) cap) (L ++ [b]) → Went w w' v g → K (a.put o.dst (.slice (some ⟨g, 0, none⟩) (L.length + 1) cap)) w') :
    if Region.wanted o (yielded ops a.tmps) = true then Oper.wp Tryd.prog o a w K Q else E := by
  have hw : Region.wanted o (yielded ops a.tmps) = true := by simp [Region.wanted, hgd]
  rw [if_pos hw]
  obtain ⟨g, cap, w', hr, h2, h3⟩ := run_grew w o.type base v L hown h b hb hlen hbase
  unfold Oper.wp execOp
  simp only [ho, resolve, invoke, builtin, Sem.run_bind, Sem.run_pure, Result.andThen_ok, List.map_toArray, List.map_cons, List.map_nil, hs, hx, hr]
  exact hk g cap w' h2 h3
end
end Go.Proofs.YtnodjcapclkmhaaDoor
