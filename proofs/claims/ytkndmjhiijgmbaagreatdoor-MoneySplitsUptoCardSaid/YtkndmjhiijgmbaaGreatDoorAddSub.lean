/- money.Add, money.Sub: walked. -/
import Derived.Test.YtkndmjhiijgmbaaGreatDoorSums
namespace Go.Proofs.YtkndmjhiijgmbaaGreatDoor
open Go.RowKit

def two (a b : Int) : Nat → Int := fun i => if i = 0 then a else b
set_option maxRecDepth 100000 in
theorem add2_any (B : Nat → Addr) (a b : Int) (w : World) (hE : Env w B) (ha : fits64 a) (hb : fits64 b) : Calls Tryz.prog 11 #[.int .i64 a, .int .i64 b] w (FitPost B (a + b) w) := by
  have hB := Below.new w (.cells #[.int .i64 a, .int .i64 b] 2)
  have a1 := sum_any B (some ⟨w.heap.size, 0, none⟩) 2 2 (two a b) (w.alloc (.cells #[.int .i64 a, .int .i64 b] 2)) (hE.below hB)
    (.inr ⟨_, _, rfl, by simp, fun i hi => by
      have h := heap_alloc_new w (.cells #[.int .i64 a, .int .i64 b] 2)
      unfold World.cell?
      rw [h]
      obtain rfl | rfl : i = 0 ∨ i = 1 := by omega
      · rfl
      · rfl⟩) (fun i hi => by unfold two; split <;> assumption) (by decide)
  rw [show sumTo (two a b) 2 = a + b by simp [sumTo, two]] at a1
  have HB := Lib.hid hB
  clear hE ha hb hB
  go_enter Tryz.func11, Tryz.ntmps11
  go_wp2_with fail
  refine a1.mono ?_
  clear a1
  rintro e w' ⟨rfl, h1⟩
  go_wp2
  go_ret2
  exact ⟨rfl, HB.out.trans (h1.mono HB.out.size)⟩

/-- Int.Sub of two numbers made by NewInt, into a new one. -/
theorem intSubW (base gs gx gy : Nat) (a b : Int) (xv yv : Value) (w : World) (hz : w.heap[gs]? = some (.cells #[.bool false, .slice none 0 0] 53 (0, 0))) (hx : w.heap[gx]? = some (.cells #[.bool (decide (a < 0)), xv] 53 (0, 0)))
    (hy : w.heap[gy]? = some (.cells #[.bool (decide (b < 0)), yv] 53 (0, 0))) (hX : W1 w xv a.natAbs) (hY : W1 w yv b.natAbs) (hb : base ≤ w.heap.size) :
    Calls Tryz.prog 29 #[.pointer (some ⟨gs, 0, none⟩), .pointer (some ⟨gx, 0, none⟩), .pointer (some ⟨gy, 0, none⟩)] w (OpPost base gs (.slice none 0 0) (a - b).natAbs (decide (a - b < 0)) w) := by
  obtain ⟨xA, xn, xc, rfl⟩ := hX.form
  obtain ⟨yA, yn, yc, rfl⟩ := hY.form
  have hop : Opnds w gs gx gy false (decide (a < 0)) (decide (b < 0)) (.slice none 0 0) (.slice xA xn xc) (.slice yA yn yc) := ⟨hz, hx, hy, by simp [Value.ownBlock]⟩
  have kX : ∀ n, W1 (w.drewN n) (.slice xA xn xc) a.natAbs := fun n => hX.keep fun _ _ => rfl
  have kY : ∀ n, W1 (w.drewN n) (.slice yA yn yc) b.natAbs := fun n => hY.keep fun _ _ => rfl
  by_cases hs : decide (b < 0) = !decide (a < 0)
  · refine (intSub_same base gs gx gy (a.natAbs + b.natAbs) false _ _ none xA yA 0 0 xn xc yn yc w hop (fun n => addW base _ _ _ _ (w.drewN n) (kX n) (kY n) hb) hs).mono fun e w' h => ?_
    have e1 : a.natAbs + b.natAbs = (a - b).natAbs := by
      by_cases h1 : a < 0
      · have : ¬ b < 0 := of_decide_eq_false (by rw [hs, decide_eq_true h1]; rfl)
        omega
      · have : b < 0 := of_decide_eq_true (by rw [hs, decide_eq_false h1]; rfl)
        omega
    have e2 : (decide (0 < a.natAbs + b.natAbs) && decide (a < 0)) = decide (a - b < 0) := by
      by_cases h1 : a < 0
      · have : ¬ b < 0 := of_decide_eq_false (by rw [hs, decide_eq_true h1]; rfl)
        rw [decide_eq_true h1, decide_eq_true (by omega), decide_eq_true (by omega)]; rfl
      · have : b < 0 := of_decide_eq_true (by rw [hs, decide_eq_false h1]; rfl)
        rw [decide_eq_false h1, Bool.and_false, decide_eq_false (by omega)]
    rw [e1] at h e2
    rw [e2] at h
    exact h
  · have hs2 : decide (b < 0) = decide (a < 0) := by
      cases h1 : decide (a < 0) <;> cases h2 : decide (b < 0) <;> simp_all
    have hab : a < 0 ↔ b < 0 := by
      constructor
      · intro h; exact of_decide_eq_true (by rw [hs2]; exact decide_eq_true h)
      · intro h; exact of_decide_eq_true (by rw [← hs2]; exact decide_eq_true h)
    rcases Nat.lt_or_ge a.natAbs b.natAbs with hlt | hge
    · refine (intSub_less base gs gx gy (b.natAbs - a.natAbs) (cmpI a.natAbs b.natAbs) false _ _ none xA yA 0 0 xn xc yn yc w hop (fun n => subW base _ _ _ _ (w.drewN n) (kY n) (kX n) hb (by omega)) (fun n => cmpW _ _ _ _ (w.drewN n) (kX n) (kY n)) (by unfold cmpI; rw [if_pos hlt]; decide) hs2).mono fun e w' h => ?_
      have e1 : b.natAbs - a.natAbs = (a - b).natAbs := by omega
      have e2 : (decide (0 < b.natAbs - a.natAbs) && !decide (a < 0)) = decide (a - b < 0) := by
        rw [decide_eq_true (show 0 < b.natAbs - a.natAbs by omega)]
        by_cases h1 : a < 0
        · rw [decide_eq_true h1, decide_eq_false (by omega)]; rfl
        · rw [decide_eq_false h1, decide_eq_true (by omega)]; rfl
      rw [e2, e1] at h
      exact h
    · refine (intSub_more base gs gx gy (a.natAbs - b.natAbs) (cmpI a.natAbs b.natAbs) false _ _ none xA yA 0 0 xn xc yn yc w hop (fun n => subW base _ _ _ _ (w.drewN n) (kX n) (kY n) hb (by omega)) (fun n => cmpW _ _ _ _ (w.drewN n) (kX n) (kY n)) (by unfold cmpI; rw [if_neg (by omega)]; split <;> decide) hs2).mono fun e w' h => ?_
      have e1 : a.natAbs - b.natAbs = (a - b).natAbs := by omega
      have e2 : (decide (0 < a.natAbs - b.natAbs) && decide (a < 0)) = decide (a - b < 0) := by
        by_cases h1 : a < 0
        · rw [decide_eq_true h1, Bool.and_true]
          rw [Bool.eq_iff_iff, decide_eq_true_eq, decide_eq_true_eq]; omega
        · rw [decide_eq_false h1, Bool.and_false, decide_eq_false (by omega)]
      rw [e2, e1] at h
      exact h

set_option maxRecDepth 100000 in
set_option maxHeartbeats 1000000 in
theorem sub2_any (B : Nat → Addr) (a b : Int) (w : World) (hE : Env w B) (ha : fits64 a) (hb : fits64 b) : Calls Tryz.prog 13 #[.int .i64 a, .int .i64 b] w (FitPost B (a - b) w) := by
  have hB0 := Below.new w (.cells #[.bool false, .slice none 0 0] 53)
  have hz0 := heap_alloc_new w (.cells #[.bool false, .slice none 0 0] 53)
  have hsz : (w.alloc (.cells #[.bool false, .slice none 0 0] 53)).heap.size = w.heap.size + 1 := by simp
  have a1 := newInt_gen a (w.alloc (.cells #[.bool false, .slice none 0 0] 53)) ha.1 ha.2
  have HE := Lib.hid hE; have HB0 := Lib.hid hB0; have HZ0 := Lib.hid hz0; have HSZ := Lib.hid hsz; have HBB := Lib.hid hb
  clear hE hB0 hz0 hsz ha hb
  go_enter Tryz.func13, Tryz.ntmps13
  go_wp2_with fail
  refine a1.mono ?_
  clear a1
  generalize hw0 : w.alloc (.cells #[.bool false, .slice none 0 0] 53) = w0 at *
  clear hw0
  rintro e w1 ⟨gx, xv, rfl, hx, hX, hb1, hgx, hown1⟩
  have a2 := newInt_gen b w1 HBB.out.1 HBB.out.2
  have HX := Lib.hid hx; have HXX := Lib.hid hX; have HB1 := Lib.hid hb1; have HO1 := Lib.hid hown1; have HGX := Lib.hid hgx
  clear hx hX hb1 hown1 hgx
  go_wp2_with fail
  refine a2.mono ?_
  clear a2
  rintro e w2 ⟨gy, yv, rfl, hy, hY, hb2, hgy, hown2⟩
  have lt1 : ∀ g (o : Obj), w1.heap[g]? = some o → g < w1.heap.size := fun g o h => by
    rcases Nat.lt_or_ge g w1.heap.size with h' | h'
    · exact h'
    · rw [Array.getElem?_eq_none h'] at h; cases h
  have hz1 : w1.heap[w.heap.size]? = some (.cells #[.bool false, .slice none 0 0] 53 (0, 0)) := (HB1.out.block _ (by rw [HSZ.out]; omega)).trans HZ0.out
  have hX2 : W1 w2 xv a.natAbs := HXX.out.keep fun k hk => hb2.block k (by
    rcases HXX.out with ⟨rfl, _⟩ | ⟨h, rfl, o⟩
    · cases hk
    · cases hk; exact o.cell.2)
  have a3 := intSubW w.heap.size w.heap.size gx gy a b xv yv w2 ((hb2.block _ (lt1 _ _ hz1)).trans hz1) ((hb2.block _ (lt1 _ _ HX.out)).trans HX.out) hy hX2 hY (by have := HB0.out.size; have := HB1.out.size; have := hb2.size; omega)
  have hbel2 : Below w.heap.size w w2 := HB0.out.trans ((HB1.out.mono HB0.out.size).trans (hb2.mono (Nat.le_trans HB0.out.size HB1.out.size)))
  have HBEL := Lib.hid hbel2
  clear hy hY hb2 hgy hown2 lt1 hz1 hX2 hbel2
  go_wp2_with fail
  refine a3.mono ?_
  clear a3
  rintro e w3 ⟨v', rfl, h1, h2, ⟨k1, k2, k3, k4, k5⟩, _⟩
  have hbel3 : Below w.heap.size w w3 := HBEL.out.trans ⟨k1, k2, k3, k4, fun k hk => k5 k (Nat.lt_of_lt_of_le hk HBEL.out.size) (by omega) (by simp [Value.ownBlock])⟩
  have a4 := fits_any B w.heap.size w.heap.size (a - b) v' w3 (HE.out.below hbel3) h1 h2
  have HB3 := Lib.hid hbel3
  clear h1 h2 k1 k2 k3 k4 k5 hbel3
  go_wp2_with fail
  refine a4.mono ?_
  clear a4
  rintro e w4 ⟨rfl, k, rfl⟩
  go_wp2
  go_ret2
  exact ⟨rfl, HB3.out.trans ⟨rfl, rfl, rfl, Nat.le_refl _, fun _ _ => rfl⟩⟩
end Go.Proofs.YtkndmjhiijgmbaaGreatDoor
