/- remitref18.Fee: walked. -/
import Derived.Test.YtikkocdbaekjmaaGreatDoorRefB
import Derived.Test.YtikkocdbaekjmaaGreatDoorFeeC
namespace Go.Proofs.YtikkocdbaekjmaaGreatDoor
open Go.RowKit
/-- What the document's Fee answers. -/
def feeN (n : Nat) (t : Nat → Tier) (l m a : Int) : Value :=
  if goodB n t l m = true then (if 1 ≤ a ∧ a ≤ 10000000000 then .tuple #[.int .i64 (feeOf (t (tierTo t a n)) l m a), .int .i64 0] else .tuple #[.int .i64 0, .int .i64 9]) else .tuple #[.int .i64 0, .int .i64 7]
/-- The fee behind the first k tiers. -/
def feeTo (t : Nat → Tier) (a : Int) (k : Nat) : Int := if k = 0 then 0 else (t (tierTo t a k)).fl + (rateOf (a.toNat * (t (tierTo t a k)).rt.toNat) : Nat)
set_option maxRecDepth 100000 in
set_option maxHeartbeats 4000000 in
theorem rfee_any (A : Option Addr) (n c : Nat) (t : Nat → Tier) (l m a : Int) (w : World) (hT : Tiers w A n t) :
    Calls Tryz.prog 17 #[feeV A n c l m, .int .i64 a] w fun e w' => e = .returned (feeN n t l m a) ∧ Below w.heap.size w w' := by
  have HT := Lib.hid hT
  have HX := Lib.hid (Boxed.new w A n c l m)
  have hTT : Tiers (w.alloc (.cells #[.slice A n c, .int .i64 l, .int .i64 m] 25)) A n t := hT.imp id fun ⟨b, o, e, hb, hc⟩ => ⟨b, o, e, Nat.lt_of_lt_of_le hb HX.out.below.size, fun i hi =>
    ⟨(HX.out.below.cell (p := ⟨b, o + i * 3, none⟩) hb).trans (hc i hi).1, (HX.out.below.cell (p := ⟨b, o + i * 3 + 1, none⟩) hb).trans (hc i hi).2.1, (HX.out.below.cell (p := ⟨b, o + i * 3 + 2, none⟩) hb).trans (hc i hi).2.2⟩⟩
  have a1 := rcheck_any A n c t l m _ hTT
  unfold feeV at a1 ⊢
  clear hT hTT
  go_enter Tryz.func17, Tryz.ntmps17
  go_wp2_with fail
  refine a1.mono ?_
  clear a1
  rintro e w2 ⟨rfl, hb2⟩
  have HX2 := Lib.hid (HX.out.step hb2)
  clear hb2 HX
  obtain ⟨x1, x2, x3⟩ := HX2.out.cells
  cases hG : goodB n t l m with
  | false =>
    have R := Lib.hid (show feeN n t l m a = .tuple #[.int .i64 0, .int .i64 7] by unfold feeN; rw [hG]; rfl)
    have e7 : chkN false = .int .i64 7 := rfl
    rw [e7]
    clear hG e7
    go_wp2
    go_ret2
    exact ⟨by rw [R.out]; rfl, HX2.out.below⟩
  | true =>
    have e7 : chkN true = .int .i64 0 := rfl
    rw [e7]
    clear e7
    by_cases ha : 1 ≤ a ∧ a ≤ 10000000000
    · have GP := Lib.hid (goodP hG)
      have R := Lib.hid (show feeN n t l m a = .tuple #[.int .i64 (feeOf (t (tierTo t a n)) l m a), .int .i64 0] by unfold feeN; rw [if_pos hG, if_pos ha])
      have n1 := GP.out.n1
      have n6 := GP.out.n6
      rcases HT.out with h0 | ⟨b, o, rfl, hb, hc⟩
      · omega
      · have d1 : decide (a < 1) = false := decide_eq_false (by omega)
        have d2 : decide (10000000000 < a) = false := decide_eq_false (by omega)
        have HA := Lib.hid ha
        have HC := Lib.hid (show ∀ i, i < n → w2.cell? ⟨b, o + i * 3, none⟩ = some (.int .i64 (t i).fr) ∧ w2.cell? ⟨b, o + i * 3 + 1, none⟩ = some (.int .i64 (t i).fl) ∧ w2.cell? ⟨b, o + i * 3 + 2, none⟩ = some (.int .i64 (t i).rt) from fun i hi =>
          ⟨(HX2.out.below.cell (p := ⟨b, o + i * 3, none⟩) hb).trans (hc i hi).1, (HX2.out.below.cell (p := ⟨b, o + i * 3 + 1, none⟩) hb).trans (hc i hi).2.1, (HX2.out.below.cell (p := ⟨b, o + i * 3 + 2, none⟩) hb).trans (hc i hi).2.2⟩)
        have hbl : b < w2.heap.size := Nat.lt_of_lt_of_le hb HX2.out.below.size
        have hlt := HX2.out.lt
        clear ha hG hc HT
        go_wp2_with fail
        go_loopw [24, 7] (fun vi vf wr => ∃ k : Nat, vi = .int .i64 k ∧ vf = .int .i64 (feeTo t a k) ∧ k ≤ n ∧ Hid (Below w2.heap.size w2 wr)) (fun vi _ _ => n - (intOf vi).toNat)
        case atStart => exact ⟨0, rfl, rfl, Nat.zero_le _, Lib.hid (Below.refl _ _)⟩
        case round =>
          obtain ⟨k, rfl, rfl, hk, hbw⟩ := hrel
          rcases Nat.lt_or_ge k n with h | h
          · have hkI : (k : Int) < n := by omega
            obtain ⟨c0, c1, c2⟩ := HC.out k h
            have c0 := (hbw.out.cell (p := ⟨b, o + k * 3, none⟩) hbl).trans c0
            have c1 := (hbw.out.cell (p := ⟨b, o + k * 3 + 1, none⟩) hbl).trans c1
            have c2 := (hbw.out.cell (p := ⟨b, o + k * 3 + 2, none⟩) hbl).trans c2
            have hfr := GP.out.fr k h
            have hfl := GP.out.fl k h
            have hrt := GP.out.rt k h
            have HK0 := Lib.hid (show k = 0 → (t k).fr ≤ a from fun e => by rw [e, GP.out.first]; have := HA.out; omega)
            generalize hx : t k = x at *
            have HX := Lib.hid hx
            clear hx
            obtain ⟨x, y, z⟩ := x
            dsimp only at hfr hfl hrt c0 c1 c2
            have HTT := Lib.hid (show tierTo t a (k + 1) = if x ≤ a then k else tierTo t a k by show (if (t k).fr ≤ a then k else tierTo t a k) = _; rw [HX.out])
            by_cases hle : x ≤ a
            · have q1 : decide (x ≤ a) = true := decide_eq_true hle
              have HF := Lib.hid (show feeTo t a (k + 1) = y + (rateOf (a.toNat * z.toNat) : Nat) by unfold feeTo; rw [if_neg (by omega), HTT.out, if_pos hle, HX.out])
              obtain ⟨r, rfl⟩ := Int.eq_ofNat_of_zero_le hrt.1
              have hav : ∃ v : Nat, a = v := Int.eq_ofNat_of_zero_le (show 0 ≤ a by have := HA.out; omega)
              obtain ⟨v, hv⟩ := hav
              have hv2 : v ≤ 10000000000 := by have := HA.out; omega
              have hr2 : r ≤ 10000 := by have := hrt.2; omega
              have hs := fun n' => share_any v r hv2 hr2 ((wr.alloc (.cells #[.int .i64 x, .int .i64 y, .int .i64 r] 35)).drewN n')
              have hsh := rateOf_le (a := v) hr2
              have HF2 := Lib.hid (show feeTo t a (k + 1) = y + (rateOf (v * r) : Nat) by rw [HF.out, hv]; simp)
              rw [← hv] at hs
              rw [show (if 10000 < 2 * (v * r % 10000) ∨ 2 * (v * r % 10000) = 10000 ∧ v * r / 10000 % 2 = 1 then v * r / 10000 + 1 else v * r / 10000) = rateOf (v * r) from rfl] at hs
              generalize rateOf (v * r) = sh at *
              have hsI : (sh : Int) ≤ 10000000000 := by omega
              have HB := Lib.hid (hbw.out.alloc hbw.out.size (.cells #[.int .i64 x, .int .i64 y, .int .i64 (r : Nat)] 35))
              clear hle HTT HF hv hsh
              go_wp2_with fail
              go_quiet ((go_at_call 27; exact Calls.quiet_of_same (hs _)))
              go_wp2
              refine ⟨⟨k + 1, by go_num, by rw [HF2.out], h, below_drewN HB.out nq⟩, by simp [intOf]; omega⟩
            · have q1 : decide (x ≤ a) = false := decide_eq_false hle
              have HF := Lib.hid (show feeTo t a (k + 1) = feeTo t a k by
                unfold feeTo
                rw [if_neg (by omega), if_neg (fun e => hle (HK0.out e)), HTT.out, if_neg hle])
              have HB := Lib.hid (hbw.out.alloc hbw.out.size (.cells #[.int .i64 x, .int .i64 y, .int .i64 z] 35))
              clear hle HTT
              go_wp2
              refine ⟨⟨k + 1, by go_num, by rw [HF.out], h, HB.out⟩, by simp [intOf]; omega⟩
          · obtain rfl : n = k := by omega
            have HF := Lib.hid (show feeOf (t (tierTo t a n)) l m a = if m = 0 then max (feeTo t a n) l else min (max (feeTo t a n) l) m by
              have e : feeTo t a n = (t (tierTo t a n)).fl + (rateOf (a.toNat * (t (tierTo t a n)).rt.toNat) : Nat) := if_neg (show ¬ n = 0 by omega)
              rw [e]; rfl)
            obtain ⟨x1, x2, x3⟩ := (HX2.out.step hbw.out).cells
            have HBW := Lib.hid (HX2.out.below.trans (hbw.out.mono HX2.out.below.size))
            generalize feeTo t a n = f at *
            by_cases hm0 : m = 0
            · have q1 : (m == 0) = true := beq_iff_eq.2 hm0
              have q2 : (m != 0) = false := by simp [hm0]
              have HR2 := Lib.hid (HF.out.trans (if_pos hm0))
              clear hm0
              go_wp2
              go_ret2
              exact ⟨by rw [R.out, HR2.out]; rfl, HBW.out⟩
            · have q1 : (m == 0) = false := beq_eq_false_iff_ne.2 hm0
              have q2 : (m != 0) = true := by simp [hm0]
              have HR2 := Lib.hid (HF.out.trans (if_neg hm0))
              clear hm0
              go_wp2
              go_ret2
              exact ⟨by rw [R.out, HR2.out]; rfl, HBW.out⟩
    · have R := Lib.hid (show feeN n t l m a = .tuple #[.int .i64 0, .int .i64 9] by unfold feeN; rw [if_pos hG, if_neg ha])
      by_cases h1 : a < 1
      · have d1 : decide (a < 1) = true := decide_eq_true h1
        clear h1 ha hG
        go_wp2
        go_ret2
        exact ⟨by rw [R.out]; rfl, HX2.out.below⟩
      · have d1 : decide (a < 1) = false := decide_eq_false h1
        have d2 : decide (10000000000 < a) = true := decide_eq_true (by omega)
        clear h1 ha hG
        go_wp2
        go_ret2
        exact ⟨by rw [R.out]; rfl, HX2.out.below⟩
end Go.Proofs.YtikkocdbaekjmaaGreatDoor
