/- Plain facts on the best of a list, and what GaugeChoice asks of memory. -/
import Derived.Test.YtjjacehacfbolaaList
import Derived.Deep.QuietTactic
import Derived.BigQuiet
import Derived.Deep.AppendLies
namespace Go.Proofs.Ytjjacehacfbolaa
open Go.RowKit

/-- A store of a float: the law that the library lacks. -/
@[go_sem] theorem run_store_float {P : Program} {w : World} {a : Addr} {m : Mode} (k : FloatKind) (b : Nat) : (store a (.float k b) m).run P w = stored P w a (.float k b) m := run_store P w a _ m rfl

/-- The number by which a health counts. -/
def rv (b : Nat) : Nat := Rnd.rung (vb b)

theorem best_spec (fh : Nat → Nat) (may : Nat → Bool) (N : Nat) :
    (bestR fh may N = -1 ∧ ∀ i, i < N → may i = false) ∨
    ∃ j : Nat, bestR fh may N = (j : Int) ∧ j < N ∧ may j = true ∧ ∀ i, i < N → may i = true → rv (fh i) < rv (fh j) ∨ (rv (fh i) = rv (fh j) ∧ j ≤ i) := by
  induction N with
  | zero => exact .inl ⟨rfl, fun i hi => absurd hi (Nat.not_lt_zero _)⟩
  | succ k ih =>
    unfold bestR
    rcases ih with ⟨e, hall⟩ | ⟨j, e, hj, hmj, hall⟩
    · rw [e]
      cases hm : may k
      · rw [if_neg (by simp)]
        refine .inl ⟨rfl, fun i hi => ?_⟩
        rcases Nat.lt_succ_iff_lt_or_eq.1 hi with h | rfl
        · exact hall i h
        · exact hm
      · rw [if_pos ⟨rfl, .inl (by decide)⟩]
        refine .inr ⟨k, rfl, by omega, hm, fun i hi hmi => ?_⟩
        rcases Nat.lt_succ_iff_lt_or_eq.1 hi with h | rfl
        · rw [hall i h] at hmi; cases hmi
        · exact .inr ⟨rfl, Nat.le_refl _⟩
    · rw [e, Int.toNat_natCast]
      by_cases hc : may k = true ∧ Rnd.rung (vb (fh j)) < Rnd.rung (vb (fh k))
      · rw [if_pos ⟨hc.1, .inr hc.2⟩]
        refine .inr ⟨k, rfl, by omega, hc.1, fun i hi hmi => ?_⟩
        have hlt : rv (fh j) < rv (fh k) := hc.2
        rcases Nat.lt_succ_iff_lt_or_eq.1 hi with h | rfl
        · rcases hall i h hmi with h | ⟨h, _⟩ <;> exact .inl (by omega)
        · exact .inr ⟨rfl, Nat.le_refl _⟩
      · rw [if_neg]
        · refine .inr ⟨j, rfl, by omega, hmj, fun i hi hmi => ?_⟩
          rcases Nat.lt_succ_iff_lt_or_eq.1 hi with h | rfl
          · exact hall i h hmi
          · have : ¬ rv (fh j) < rv (fh i) := fun h => hc ⟨hmi, h⟩
            rcases Nat.lt_or_ge (rv (fh i)) (rv (fh j)) with h | h
            · exact .inl h
            · exact .inr ⟨by omega, by omega⟩
        · rintro ⟨h1, h2⟩
          rcases h2 with h2 | h2
          · omega
          · exact hc ⟨h1, h2⟩

theorem best_congr {f g : Nat → Nat} {may : Nat → Bool} {N : Nat} (h : ∀ i, i < N → may i = true → f i = g i) : bestR f may N = bestR g may N := by
  induction N with
  | zero => rfl
  | succ k ih =>
    have e := ih fun i hi => h i (by omega)
    unfold bestR
    rw [← e]
    cases hm : may k
    · rw [if_neg (by simp), if_neg (by simp)]
    · rw [h k (by omega) hm]
      by_cases hn : bestR f may k < 0
      · rw [if_pos ⟨rfl, .inl hn⟩, if_pos ⟨rfl, .inl hn⟩]
      · rcases best_spec f may k with ⟨e1, _⟩ | ⟨j, e1, hj, hmj, _⟩
        · rw [e1] at hn; exact absurd (by decide) hn
        · rw [e1, Int.toNat_natCast, h j (by omega) hmj]

/-- An owned row of floats, as a slice that can be read. -/
theorem own_sl {w : World} {B n : Nat} {v : Value} {z : Nat → Nat} (h : w.ownsRow B 24 1 v n (flo z n)) :
    ∃ A c, v = .slice A n c ∧ Sl w A n (fun i => .float .f32 (z i)) := by
  rcases h.2 with ⟨rfl, rfl⟩ | ⟨g, cap, cur, rfl, _, hg, _⟩
  · exact ⟨none, 0, rfl, fun h => absurd h (Nat.lt_irrefl _)⟩
  · refine ⟨some ⟨g, 0, none⟩, cap, rfl, fun _ => ⟨g, 0, rfl, (Array.getElem?_eq_some_iff.1 hg).1, fun i hi => ?_⟩⟩
    rw [Nat.zero_add, h.cellAt i (by omega)]
    simp [flo, List.getElem?_range hi]

theorem Sl.below {w w' : World} {A : Option Addr} {n : Nat} {f : Nat → Value} (h : Sl w A n f) (hb : Below w.heap.size w w') : Sl w' A n f := fun hn => by
  obtain ⟨g, o, rfl, hg, hc⟩ := h hn
  exact ⟨g, o, rfl, Nat.lt_of_lt_of_le hg hb.size, fun i hi => (hb.cell (by exact hg)).trans (hc i hi)⟩
theorem Sl.drewN {w : World} {A : Option Addr} {n : Nat} {f : Nat → Value} (h : Sl w A n f) (k : Nat) : Sl (w.drewN k) A n f := h
theorem below_drewN {B : Nat} {a w : World} (h : Below B a w) (n : Nat) : Below B a (w.drewN n) := ⟨h.os, h.tape, h.output, h.size, h.block⟩

theorem counts_any (b : Nat) (w : World) (hb : b < 4294967296) : Calls Try.prog 12 #[.float .f32 b] w fun e w' => e = .returned (.float .f32 (vb b)) ∧ w = w' := by
  have f := fgood hb
  cases hg : Rnd.good b
  · have e : vb b = 0 := by unfold vb; rw [hg]; rfl
    rw [e]; clear e
    rw [hg, Bool.and_eq_false_iff] at f
    cases hf : (FloatKind.f32.format.order b 0 == some .gt || FloatKind.f32.format.order b 0 == some .eq)
    · clear f
      go_enter Try.func12, Try.ntmps12
      go_wp2
      go_ret
      exact ⟨rfl, rfl⟩
    · have f2 := f.resolve_left (by rw [hf]; simp)
      clear f
      go_enter Try.func12, Try.ntmps12
      go_wp2
      go_ret
      exact ⟨rfl, rfl⟩
  · have e : vb b = b := by unfold vb; rw [hg]; rfl
    rw [e]; clear e f
    have g1 := ge0 hg
    have g2 := le1 hg
    go_enter Try.func12, Try.ntmps12
    go_wp2
    go_ret
    exact ⟨rfl, rfl⟩

/-- The healths, of those that may not be taken and come ahead of k the others. -/
def mix (z o : Nat → Nat) (may : Nat → Bool) (m lo k i : Nat) : Nat := if i < k ∧ (m ≤ i ∨ may i = false) ∧ i < lo then o i else z i
theorem mix_zero (z o : Nat → Nat) (may : Nat → Bool) (m lo n : Nat) : flo (mix z o may m lo 0) n = flo z n := by
  unfold flo mix
  simp
theorem mix_keep {z o : Nat → Nat} {may : Nat → Bool} {m lo k n : Nat} (h : ¬ ((m ≤ k ∨ may k = false) ∧ k < lo)) : flo (mix z o may m lo (k + 1)) n = flo (mix z o may m lo k) n := by
  unfold flo
  refine List.map_congr_left fun i _ => ?_
  unfold mix
  by_cases hk : i = k
  · subst hk
    rw [if_neg (by intro hh; exact h hh.2), if_neg (by omega)]
  · have : (i < k + 1 ∧ (m ≤ i ∨ may i = false) ∧ i < lo) ↔ (i < k ∧ (m ≤ i ∨ may i = false) ∧ i < lo) := by
      constructor
      · rintro ⟨a, b⟩; exact ⟨by omega, b⟩
      · rintro ⟨a, b⟩; exact ⟨by omega, b⟩
    simp only [this]
theorem mix_set {z o : Nat → Nat} {may : Nat → Bool} {m lo k n : Nat} (h : (m ≤ k ∨ may k = false) ∧ k < lo) : (flo (mix z o may m lo k) n).set k (.float .f32 (o k)) = flo (mix z o may m lo (k + 1)) n := by
  apply List.ext_getElem?
  intro i
  unfold flo
  rw [List.getElem?_set]
  by_cases hi : i < n
  · by_cases hk : k = i
    · subst hk
      rw [if_pos rfl, if_pos (by simpa using hi)]
      simp only [List.getElem?_map, List.getElem?_range hi, Option.map_some]
      unfold mix
      rw [if_pos ⟨by omega, h⟩]
    · rw [if_neg hk]
      simp only [List.getElem?_map, List.getElem?_range hi, Option.map_some]
      unfold mix
      have : (i < k + 1 ∧ (m ≤ i ∨ may i = false) ∧ i < lo) ↔ (i < k ∧ (m ≤ i ∨ may i = false) ∧ i < lo) := by
        constructor
        · rintro ⟨a, b⟩; exact ⟨by omega, b⟩
        · rintro ⟨a, b⟩; exact ⟨by omega, b⟩
      simp only [this]
  · by_cases hk : k = i
    · subst hk
      rw [if_pos rfl, if_neg (by simpa using hi), List.getElem?_eq_none (by simp; omega)]
    · rw [if_neg hk, List.getElem?_eq_none (by simp; omega), List.getElem?_eq_none (by simp; omega)]
theorem mix_best {z o : Nat → Nat} {may : Nat → Bool} {m lo k N : Nat} (h : N ≤ m) : bestR (mix z o may m lo k) may N = bestR z may N := by
  refine best_congr fun i hi hm => ?_
  unfold mix
  rw [if_neg]
  rintro ⟨_, h1 | h1, _⟩
  · omega
  · rw [hm] at h1; cases h1
theorem mix_lt {z o : Nat → Nat} {may : Nat → Bool} {m lo k n : Nat} (hz : ∀ i, i < n → z i < 4294967296) (ho : ∀ i, i < lo → o i < 4294967296) : ∀ i, i < n → mix z o may m lo k i < 4294967296 := by
  intro i hi
  unfold mix
  split
  · rename_i hc; exact ho i hc.2.2
  · exact hz i hi
end Go.Proofs.Ytjjacehacfbolaa
