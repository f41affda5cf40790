/- remitlaw28.copies: the copying of a posting's legs. -/
import Derived.Test.YtodekiimkbejnaaGreatDoorReplay
import Derived.Deep.Upon
import Derived.Deep.RegionLaw
namespace Go.Proofs.YtodekiimkbejnaaGreatDoor
open Go.RowKit Go.WideMaps Go.Maps

/-- The cells of the first n legs. -/
def legsL (lg : Nat → LegV) : Nat → List Value
  | 0 => []
  | k + 1 => legsL lg k ++ [.string (lg k).a, .int .i64 (lg k).x]
theorem legsL_length (lg : Nat → LegV) : ∀ k, (legsL lg k).length = k * 2
  | 0 => rfl
  | k + 1 => by simp [legsL, legsL_length lg k]; omega
theorem legsL_one (lg : Nat → LegV) : ∀ k, ∀ u ∈ legsL lg k, u.oneCell' = true
  | 0, u, h => by simp [legsL] at h
  | k + 1, u, h => by
    simp [legsL] at h
    rcases h with h | rfl | rfl
    · exact legsL_one lg k u h
    · rfl
    · rfl
theorem legsL_at (lg : Nat → LegV) : ∀ k i, i < k → (legsL lg k)[i * 2]? = some (.string (lg i).a) ∧ (legsL lg k)[i * 2 + 1]? = some (.int .i64 (lg i).x)
  | 0, i, h => by omega
  | k + 1, i, h => by
    by_cases e : i = k
    · subst e
      have hl := legsL_length lg i
      constructor
      · rw [legsL, List.getElem?_append_right (by omega), hl, Nat.sub_self]; rfl
      · rw [legsL, List.getElem?_append_right (by omega), hl, show i * 2 + 1 - i * 2 = 1 by omega]; rfl
    · have ih := legsL_at lg k i (by omega)
      have hl := legsL_length lg k
      rw [legsL, List.getElem?_append_left (by omega), List.getElem?_append_left (by omega)]
      exact ih
/-- A row of legs that one owns bears the legs. -/
theorem LegsAt.of_row {w : World} {B g n cap : Nat} {lg : Nat → LegV} (h : w.ownsRow B 37 2 (.slice (some ⟨g, 0, none⟩) n cap) n (legsL lg n)) (hok : ∀ i, i < n → (lg i).Ok) (m : Nat) (hm : m ≤ n) : LegsAt w (some ⟨g, 0, none⟩) m lg := by
  intro hm0
  obtain ⟨g', cap', e, hB, hg⟩ := h.form (by omega)
  cases e
  have hc := h.cells (g := g) rfl
  have hadd : ∀ i, (⟨g, 0, none⟩ : Addr).add i = ⟨g, i, none⟩ := fun i => by unfold Addr.add; split <;> simp_all
  refine ⟨g, 0, rfl, hg, fun i hi => ⟨?_, ?_, hok i (by omega)⟩⟩
  · have := hc (i * 2) _ (legsL_at lg n i (by omega)).1
    rw [hadd] at this
    rw [Nat.zero_add]; exact this
  · have := hc (i * 2 + 1) _ (legsL_at lg n i (by omega)).2
    rw [hadd] at this
    rw [Nat.zero_add]; exact this
/-- The cells to be copied, as the append wants them. -/
theorem legs_news {w : World} {g o n : Nat} {lg : Nat → LegV} (hc : ∀ i, i < n → w.cell? ⟨g, o + i * 2, none⟩ = some (.string (lg i).a) ∧ w.cell? ⟨g, o + i * 2 + 1, none⟩ = some (.int .i64 (lg i).x)) :
    ∀ j u, (legsL lg n)[j]? = some u → w.cell? ((⟨g, o, none⟩ : Addr).add j) = some u := by
  intro j u hu
  have hadd : (⟨g, o, none⟩ : Addr).add j = ⟨g, o + j, none⟩ := by unfold Addr.add; split <;> simp_all
  have hj : j < n * 2 := by
    have := (List.getElem?_eq_some_iff.1 hu).1
    rwa [legsL_length] at this
  rw [hadd]
  have h2 := legsL_at lg n (j / 2) (by omega)
  have h3 := hc (j / 2) (by omega)
  rcases Nat.mod_two_eq_zero_or_one j with e | e
  · have ej : j = j / 2 * 2 := by omega
    rw [ej] at hu ⊢
    exact h3.1.trans (h2.1.symm.trans hu)
  · have ej : j = j / 2 * 2 + 1 := by omega
    rw [ej] at hu ⊢
    exact h3.2.trans (h2.2.symm.trans hu)
section
variable {w : World} {ops : Array Oper} {o : Oper} {a : Act} {K : Act → World → Prop} {Q : Exit → Act → World → Prop} {E : Prop}
/-- The legs that came in, behind a new empty row. -/
theorem step_copy (hgd : o.guard = none) (s x : Operand) (ho : o.op = .call { callee := .builtin .append, args := #[s, x], argTypes := #[25, 25] })
    (h B : Nat) (hs : a.eval s = .slice (some ⟨h, 0, none⟩) 0 0) (hb : w.heap[h]? = some (.cells #[] 37 (0, 0))) (hBh : B ≤ h) (A : Option Addr) (n c : Nat) (lg : Nat → LegV) (hx : a.eval x = .slice A n c) (hL : LegsAt w A n lg) (hn : n ≤ 4398046511103) (hbase : B ≤ w.heap.size)
    (hk : ∀ g cap w', w'.ownsRow B 37 2 (.slice (some ⟨g, 0, none⟩) n cap) n (legsL lg n) → w.grownBy w' (some h) → (g = h ∨ g = w.heap.size) → K (a.put o.dst (.slice (some ⟨g, 0, none⟩) n cap)) w') :
    if Region.wanted o (yielded ops a.tmps) = true then Oper.wp Tryz.prog o a w K Q else E := by
  obtain ⟨i0, hi0, hz0, hz1, hz2⟩ := info_parts info37
  have hrow : w.ownsRow B 37 2 (.slice (some ⟨h, 0, none⟩) 0 0) 0 [] := ⟨rfl, .inr ⟨_, 0, #[], rfl, hBh, hb, Nat.le_refl _, Nat.zero_le _, rfl, rfl⟩⟩
  rcases Nat.eq_zero_or_pos n with h0 | h0
  · subst h0
    have hw : Region.wanted o (yielded ops a.tmps) = true := by simp [Region.wanted, hgd]
    rw [if_pos hw]
    have hsrc : Src Tryz.prog i0.size 25 (.slice A 0 c) 0 [] w := by
      cases A with
      | none => exact Src.ofNil w Tryz.underlying25 c
      | some ad => exact Src.ofSlice w Tryz.underlying25 ad 0 c [] (by simp) (by simp) (by simp)
    have hr := run_append_nothing w 25 25 o.type 37 i0 Tryz.underlying25 hi0 (some ⟨h, 0, none⟩) 0 0 (Nat.le_refl _) (.slice A 0 c) hsrc
    unfold Oper.wp execOp
    simp only [ho, resolve, invoke, builtin, Sem.run_bind, Sem.run_pure, Result.andThen_ok, List.map_toArray, List.map_cons, List.map_nil, hs, hx, hr]
    exact hk h 0 w hrow ⟨rfl, rfl, rfl, Nat.le_refl _, fun _ _ _ => rfl⟩ (.inl rfl)
  · obtain ⟨g, off, rfl, hg, hc⟩ := hL h0
    refine step_append_lies w hgd s x 25 ho B 37 i0 _ 2 24 Tryz.underlying25 hi0 hz0 hz1 hz2 rfl (by decide) _ 0 [] hs hrow ⟨g, off, none⟩ n c (legsL lg n) hx (legsL_length lg n) (legs_news fun i hi => ⟨(hc i hi).1, (hc i hi).2.1⟩) (legsL_one lg n) h0 (by unfold maxLen; omega) (by omega) hbase _ rfl ?_
    intro g' cap w' h1 h2 h3 _
    rw [Nat.zero_add, List.nil_append] at h1
    rw [Nat.zero_add]
    refine hk g' cap w' h1 h2 ?_
    rcases h3 with h3 | h3
    · exact .inl (Option.some.inj (show some h = some g' from h3)).symm
    · exact .inr h3
/-- One leg behind an owned row. -/
theorem step_leg (hgd : o.guard = none) (s x : Operand) (ho : o.op = .call { callee := .builtin .append, args := #[s, x], argTypes := #[25, 25] })
    (B g n cap : Nat) (xs : List Value) (hs : a.eval s = .slice (some ⟨g, 0, none⟩) n cap) (hown : w.ownsRow B 37 2 (.slice (some ⟨g, 0, none⟩) n cap) n xs) (q : Nat) (t : ByteArray) (c : Int) (hx : a.eval x = .slice (some ⟨q, 0, none⟩) 1 1) (hq : w.heap[q]? = some (.cells #[.string t, .int .i64 c] 37 (0, 0)))
    (hn : n ≤ 4398046511103) (hbase : B ≤ w.heap.size)
    (hk : ∀ g' cap' w', w'.ownsRow B 37 2 (.slice (some ⟨g', 0, none⟩) (n + 1) cap') (n + 1) (xs ++ [.string t, .int .i64 c]) → w.grownBy w' (some g) → (g' = g ∨ g' = w.heap.size) → K (a.put o.dst (.slice (some ⟨g', 0, none⟩) (n + 1) cap')) w') :
    if Region.wanted o (yielded ops a.tmps) = true then Oper.wp Tryz.prog o a w K Q else E := by
  obtain ⟨i0, hi0, hz0, hz1, hz2⟩ := info_parts info37
  refine step_append_lies w hgd s x 25 ho B 37 i0 _ 2 24 Tryz.underlying25 hi0 hz0 hz1 hz2 rfl (by decide) _ n xs hs hown ⟨q, 0, none⟩ 1 1 [.string t, .int .i64 c] hx rfl (World.news_of_block hq) ?_ (by omega) (by unfold maxLen; omega) (by omega) hbase _ rfl ?_
  · intro u hu
    simp at hu
    rcases hu with rfl | rfl <;> rfl
  · intro g' cap' w' h1 h2 h3 _
    refine hk g' cap' w' h1 h2 ?_
    rcases h3 with h3 | h3
    · exact .inl (Option.some.inj (show some g = some g' from h3)).symm
    · exact .inr h3
end
end Go.Proofs.YtodekiimkbejnaaGreatDoor
