/- A list of currencies, copied by append. -/
import Derived.Test.YtkndmjhiijgmbaaGreatDoorFindR
import Derived.Test.YtkndmjhiijgmbaaGreatDoorAppRows
namespace Go.Proofs.YtkndmjhiijgmbaaGreatDoor
open Go.RowKit

theorem info42 : (Tryz.prog.info? 42).map (fun i => (i.zero, i.size, i.bytes)) = some (some (.agg #[.string ⟨#[]⟩, .int .i64 0]), 2, 24) := by kernel_rfl
/-- The cells of the first n currencies. -/
def cursL (t : Nat → Cur) : Nat → List Value
  | 0 => []
  | k + 1 => cursL t k ++ [.string (t k).s, .int .i64 (t k).d]
theorem cursL_length (t : Nat → Cur) : ∀ k, (cursL t k).length = k * 2
  | 0 => rfl
  | k + 1 => by simp [cursL, cursL_length t k]; omega
theorem cursL_one (t : Nat → Cur) : ∀ k, ∀ u ∈ cursL t k, u.oneCell' = true
  | 0, u, h => by simp [cursL] at h
  | k + 1, u, h => by
    simp [cursL] at h
    rcases h with h | rfl | rfl
    · exact cursL_one t k u h
    · rfl
    · rfl
theorem cursL_at (t : Nat → Cur) : ∀ k i, i < k → (cursL t k)[i * 2]? = some (.string (t i).s) ∧ (cursL t k)[i * 2 + 1]? = some (.int .i64 (t i).d)
  | 0, i, h => by omega
  | k + 1, i, h => by
    by_cases e : i = k
    · subst e
      have hl := cursL_length t i
      constructor
      · rw [cursL, List.getElem?_append_right (by omega), hl, Nat.sub_self]; rfl
      · rw [cursL, List.getElem?_append_right (by omega), hl, show i * 2 + 1 - i * 2 = 1 by omega]; rfl
    · have ih := cursL_at t k i (by omega)
      have hl := cursL_length t k
      rw [cursL, List.getElem?_append_left (by omega), List.getElem?_append_left (by omega)]
      exact ih
theorem curs_row {w : World} {B g n cap : Nat} {t : Nat → Cur} (h : w.ownsRow B 42 2 (.slice (some ⟨g, 0, none⟩) n cap) n (cursL t n)) : Curs w (some ⟨g, 0, none⟩) n t := by
  rcases Nat.eq_zero_or_pos n with h0 | h0
  · exact .inl h0
  obtain ⟨g', cap', e, hB, hg⟩ := h.form h0
  cases e
  have hc := h.cells (g := g) rfl
  have hadd : ∀ i, (⟨g, 0, none⟩ : Addr).add i = ⟨g, i, none⟩ := fun i => by unfold Addr.add; split <;> simp_all
  refine .inr ⟨g, 0, rfl, hg, fun i hi => ⟨?_, ?_⟩⟩
  · have := hc (i * 2) _ (cursL_at t n i hi).1
    rw [hadd] at this
    rw [Nat.zero_add]; exact this
  · have := hc (i * 2 + 1) _ (cursL_at t n i hi).2
    rw [hadd] at this
    rw [Nat.zero_add]; exact this
theorem curs_news {w : World} {g o n : Nat} {t : Nat → Cur} (hc : ∀ i, i < n → w.cell? ⟨g, o + i * 2, none⟩ = some (.string (t i).s) ∧ w.cell? ⟨g, o + i * 2 + 1, none⟩ = some (.int .i64 (t i).d)) :
    ∀ j u, (cursL t n)[j]? = some u → w.cell? ((⟨g, o, none⟩ : Addr).add j) = some u := by
  intro j u hu
  have hadd : (⟨g, o, none⟩ : Addr).add j = ⟨g, o + j, none⟩ := by unfold Addr.add; split <;> simp_all
  have hj : j < n * 2 := by
    have := (List.getElem?_eq_some_iff.1 hu).1
    rwa [cursL_length] at this
  rw [hadd]
  have h2 := cursL_at t n (j / 2) (by omega)
  have h3 := hc (j / 2) (by omega)
  rcases Nat.mod_two_eq_zero_or_one j with e | e
  · have ej : j = j / 2 * 2 := by omega
    rw [ej] at hu ⊢
    exact h3.1.trans (h2.1.symm.trans hu)
  · have ej : j = j / 2 * 2 + 1 := by omega
    rw [ej] at hu ⊢
    exact h3.2.trans (h2.2.symm.trans hu)
section
variable {w : World} {ops : Array Oper} {rest : List Oper} {o : Oper} {a : Act} {Q : Exit → Act → World → Prop}
/-- The list that came in, behind a new empty row. -/
theorem copy_list (hgd : o.guard = none) (s x : Operand) (ho : o.op = .call { callee := .builtin .append, args := #[s, x], argTypes := #[40, 40] })
    (B : Nat) (hs : a.eval s = .slice (some ⟨B, 0, none⟩) 0 0) (hb : w.heap[B]? = some (.cells #[] 42 (0, 0))) (A : Option Addr) (n c : Nat) (t : Nat → Cur) (hx : a.eval x = .slice A n c) (hL : Curs w A n t) (hn : n * 24 ≤ 140737488355328)
    (hk : ∀ g o' cap w', Curs w' (some ⟨g, o', none⟩) n t → Below B w w' → wpList Tryz.prog ops Q rest (a.put o.dst (.slice (some ⟨g, o', none⟩) n cap)) w') :
    wpList Tryz.prog ops Q (o :: rest) a w := by
  obtain ⟨i0, hi0, hzz⟩ := Option.map_eq_some_iff.1 info42
  simp only [Prod.mk.injEq] at hzz
  obtain ⟨hz0, hz1, hz2⟩ := hzz
  have hbase : B ≤ w.heap.size := Nat.le_of_lt (lt_of_block hb)
  have hrow : w.ownsRow B 42 2 (.slice (some ⟨B, 0, none⟩) 0 0) 0 [] := ⟨rfl, .inr ⟨_, 0, #[], rfl, Nat.le_refl _, hb, Nat.le_refl _, Nat.zero_le _, rfl, rfl⟩⟩
  rcases Nat.eq_zero_or_pos n with h0 | h0
  · subst h0
    have hsrc : Src Tryz.prog i0.size 40 (.slice A 0 c) 0 [] w := by
      cases A with
      | none => exact Src.ofNil w Tryz.underlying40 c
      | some ad => exact Src.ofSlice w Tryz.underlying40 ad 0 c [] (by simp) (by simp) (by simp)
    have hr := run_append_nothing w 40 40 o.type 42 i0 Tryz.underlying40 hi0 (some ⟨B, 0, none⟩) 0 0 (Nat.le_refl _) (.slice A 0 c) hsrc
    refine wpList_plain hgd fun _ hK => ?_
    unfold Oper.wp execOp
    simp only [ho, resolve, invoke, builtin, Sem.run_bind, Sem.run_pure, Result.andThen_ok, List.map_toArray, List.map_cons, List.map_nil, hs, hx, hr]
    exact hK _ _ (hk B 0 0 w (.inl rfl) (Below.refl _ _))
  · rcases hL with h | ⟨g, off, rfl, hg, hc⟩
    · omega
    refine wpList_append_lies w hgd s x 40 ho B 42 i0 _ 2 24 Tryz.underlying40 hi0 hz0 hz1 hz2 rfl (by decide) _ 0 [] hs hrow ⟨g, off, none⟩ n c (cursL t n) hx (cursL_length t n) (curs_news hc) (cursL_one t n) h0 (by unfold maxLen; omega) (by omega) hbase _ rfl ?_
    intro g' cap w' h1 h2 h3 _
    rw [Nat.zero_add, List.nil_append] at h1
    rw [Nat.zero_add]
    exact hk g' 0 cap w' (curs_row h1) ((Below.refl B w).grown h2 hbase fun k hk => by
      have : some B = some k := hk
      injection this with this
      omega)
end
/-- What a Find answers, opened. -/
theorem findV_form (o : Option Cur) : ∃ s d b, findV o = .tuple #[.agg #[.string s, .int .i64 d], .bool b] := by
  cases o with
  | none => exact ⟨_, _, _, rfl⟩
  | some c => exact ⟨_, _, _, rfl⟩
end Go.Proofs.YtkndmjhiijgmbaaGreatDoor
