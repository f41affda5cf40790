/- money.Add, money.Sub: walked. -/
import Derived.Test.YthkobjbemmllfaaGreatDoorSums
namespace Go.Proofs.YthkobjbemmllfaaGreatDoor
open Go.RowKit

def two (a b : Int) : Nat → Int := fun i => if i = 0 then a else b
set_option maxRecDepth 100000 in
theorem add2_any (B : Nat → Addr) (a b : Int) (w : World) (hE : Env w B) (ha : fits64 a) (hb : fits64 b) : Calls Tryz.prog 10 #[.int .i64 a, .int .i64 b] w (FitPost B (a + b) w) := by
  have hB := Below.new w (.cells #[.int .i64 a, .int .i64 b] 2)
  have a1 := sum_any B (some ⟨w.heap.size, 0, none⟩) 2 2 (two a b) (w.alloc (.cells #[.int .i64 a, .int .i64 b] 2)) (hE.below hB)
    (.inr ⟨_, _, rfl, by simp, fun i hi => by
      have h := heap_alloc_new w (.cells #[.int .i64 a, .int .i64 b] 2)
      unfold World.cell?
      rw [h]
      obtain rfl | rfl : i = 0 ∨ i = 1 := by omega
      · rfl
      · rfl⟩) (fun i hi => by unfold two; split <;> assumption) (by decide)
  rw [show sumTo (two a b) 2 = a + b by simp [sumTo, two]] at a1
  have HB := Lib.hid hB
  clear hE ha hb hB
  go_enter Tryz.func10, Tryz.ntmps10
  go_wp2_with fail
  refine a1.mono ?_
  clear a1
  rintro e w' ⟨rfl, h1⟩
  go_wp2
  go_ret2
  exact ⟨rfl, HB.out.trans (h1.mono HB.out.size)⟩

/-- Int.Sub of two numbers made by NewInt, into a new one. -/
theorem intSubW (base gs gx gy : Nat) (a b : Int) (xv yv : Value) (w : World) (hz : w.heap[gs]? = some (.cells #[.bool false, .slice none 0 0] 46 (0, 0))) (hx : w.heap[gx]? = some (.cells #[.bool (decide (a < 0)), xv] 46 (0, 0)))
    (hy : w.heap[gy]? = some (.cells #[.bool (decide (b < 0)), yv] 46 (0, 0))) (hX : W1 w xv a.natAbs) (hY : W1 w yv b.natAbs) (hb : base ≤ w.heap.size) :
    Calls Tryz.prog 47 #[.pointer (some ⟨gs, 0, none⟩), .pointer (some ⟨gx, 0, none⟩), .pointer (some ⟨gy, 0, none⟩)] w (OpPost base gs (.slice none 0 0) (a - b).natAbs (decide (a - b < 0)) w) := by
  obtain ⟨xA, xn, xc, rfl⟩ := hX.form
  obtain ⟨yA, yn, yc, rfl⟩ := hY.form
  have hop : Opnds w gs gx gy false (decide (a < 0)) (decide (b < 0)) (.slice none 0 0) (.slice xA xn xc) (.slice yA yn yc) := ⟨hz, hx, hy, by simp [Value.ownBlock]⟩
  have kX : ∀ n, W1 (w.drewN n) (.slice xA xn xc) a.natAbs := fun n => hX.keep fun _ _ => rfl
  have kY : ∀ n, W1 (w.drewN n) (.slice yA yn yc) b.natAbs := fun n => hY.keep fun _ _ => rfl
  by_cases hs : decide (b < 0) = !decide (a < 0)
  · refine (intSub_same base gs gx gy (a.natAbs + b.natAbs) false _ _ none xA yA 0 0 xn xc yn yc w hop (fun n => addW base _ _ _ _ (w.drewN n) (kX n) (kY n) hb) hs).mono fun e w' h => ?_
    have e1 : a.natAbs + b.natAbs = (a - b).natAbs := by
      by_cases h1 : a < 0
      · have : ¬ b < 0 := of_decide_eq_false (by rw [hs, decide_eq_true h1]; rfl)
        omega
      · have : b < 0 := of_decide_eq_true (by rw [hs, decide_eq_false h1]; rfl)
        omega
    have e2 : (decide (0 < a.natAbs + b.natAbs) && decide (a < 0)) = decide (a - b < 0) := by
      by_cases h1 : a < 0
      · have : ¬ b < 0 := of_decide_eq_false (by rw [hs, decide_eq_true h1]; rfl)
        rw [decide_eq_true h1, decide_eq_true (by omega), decide_eq_true (by omega)]; rfl
      · have : b < 0 := of_decide_eq_true (by rw [hs, decide_eq_false h1]; rfl)
        rw [decide_eq_false h1, Bool.and_false, decide_eq_false (by omega)]
    rw [e1] at h e2
    rw [e2] at h
    exact h
  · have hs2 : decide (b < 0) = decide (a < 0) := by
      cases h1 : decide (a < 0) <;> cases h2 : decide (b < 0) <;> simp_all
    have hab : a < 0 ↔ b < 0 := by
      constructor
      · intro h; exact of_decide_eq_true (by rw [hs2]; exact decide_eq_true h)
      · intro h; exact of_decide_eq_true (by rw [← hs2]; exact decide_eq_true h)
    rcases Nat.lt_or_ge a.natAbs b.natAbs with hlt | hge
    · refine (intSub_less base gs gx gy (b.natAbs - a.natAbs) (cmpI a.natAbs b.natAbs) false _ _ none xA yA 0 0 xn xc yn yc w hop (fun n => subW base _ _ _ _ (w.drewN n) (kY n) (kX n) hb (by omega)) (fun n => cmpW _ _ _ _ (w.drewN n) (kX n) (kY n)) (by unfold cmpI; rw [if_pos hlt]; decide) hs2).mono fun e w' h => ?_
      have e1 : b.natAbs - a.natAbs = (a - b).natAbs := by omega
      have e2 : (decide (0 < b.natAbs - a.natAbs) && !decide (a < 0)) = decide (a - b < 0) := by
        rw [decide_eq_true (show 0 < b.natAbs - a.natAbs by omega)]
        by_cases h1 : a < 0
        · rw [decide_eq_true h1, decide_eq_false (by omega)]; rfl
        · rw [decide_eq_false h1, decide_eq_true (by omega)]; rfl
      rw [e2, e1] at h
      exact h
    · refine (intSub_more base gs gx gy (a.natAbs - b.natAbs) (cmpI a.natAbs b.natAbs) false _ _ none xA yA 0 0 xn xc yn yc w hop (fun n => subW base _ _ _ _ (w.drewN n) (kX n) (kY n) hb (by omega)) (fun n => cmpW _ _ _ _ (w.drewN n) (kX n) (kY n)) (by unfold cmpI; rw [if_neg (by omega)]; split <;> decide) hs2).mono fun e w' h => ?_
      have e1 : a.natAbs - b.natAbs = (a - b).natAbs := by omega
      have e2 : (decide (0 < a.natAbs - b.natAbs) && decide (a < 0)) = decide (a - b < 0) := by
        by_cases h1 : a < 0
        · rw [decide_eq_true h1, Bool.and_true]
          rw [Bool.eq_iff_iff, decide_eq_true_eq, decide_eq_true_eq]; omega
        · rw [decide_eq_false h1, Bool.and_false, decide_eq_false (by omega)]
      rw [e2, e1] at h
      exact h
end Go.Proofs.YthkobjbemmllfaaGreatDoor
