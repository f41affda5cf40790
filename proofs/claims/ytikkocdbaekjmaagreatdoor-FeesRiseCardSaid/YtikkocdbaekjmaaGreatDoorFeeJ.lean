/- remitlaw18.tier: walked; the plain law of FeesRise. -/
import Derived.Test.YtikkocdbaekjmaaGreatDoorFeeI
namespace Go.Proofs.YtikkocdbaekjmaaGreatDoor
open Go.RowKit
/-- Which tier is an amount's? -/
theorem rateOf_mono {a b : Nat} (h : a ≤ b) : rateOf a ≤ rateOf b := by
  unfold rateOf
  split <;> split <;> omega
/-- Within a tier fees rise. -/
theorem fee_rise {x : Tier} {l m a b : Int} (hab : a ≤ b) : feeOf x l m a ≤ feeOf x l m b := by
  have h1 : a.toNat * x.rt.toNat ≤ b.toNat * x.rt.toNat := Nat.mul_le_mul_right _ (by omega)
  have h2 := rateOf_mono h1
  unfold feeOf
  dsimp only
  split <;> omega
/-- A fee's bounds. -/
theorem fee_least {x : Tier} {l m a : Int} (hlm : m = 0 ∨ l ≤ m) : l ≤ feeOf x l m a := by
  unfold feeOf
  dsimp only
  split <;> omega
theorem fee_most {x : Tier} {l m a : Int} (hm : m ≠ 0) : feeOf x l m a ≤ m := by
  unfold feeOf
  dsimp only
  rw [if_neg hm]
  omega
theorem fee_twice {x : Tier} {l m a : Int} (hf : x.fl ≤ 10000000000) (hl : l ≤ 10000000000) (ha : a ≤ 10000000000) (h0 : 0 ≤ a) (hr : x.rt ≤ 10000) (hfl : 0 ≤ x.fl) : feeOf x l m a ≤ 20000000000 := by
  have h := rateOf_le (a := a.toNat) (r := x.rt.toNat) (by omega)
  unfold feeOf
  dsimp only
  split <;> omega
set_option maxRecDepth 100000 in
set_option maxHeartbeats 4000000 in
theorem tier_any (A : Option Addr) (n c : Nat) (t : Nat → Tier) (l m a : Int) (w : World) (hT : Tiers w A n t) (hn : n ≤ 6) :
    Calls Tryz.prog 13 #[feeV A n c l m, .int .i64 a] w fun e w' => e = .returned (.int .i64 (tierTo t a n)) ∧ Below w.heap.size w w' := by
  have HT := Lib.hid hT
  have HX := Lib.hid (Boxed.new w A n c l m)
  unfold feeV
  clear hT
  obtain ⟨x1, _, _⟩ := HX.out.cells
  go_enter Tryz.func13, Tryz.ntmps13
  go_wp2_with fail
  go_loopw [11, 5] (fun vi vt wr => ∃ k : Nat, vi = .int .i64 k ∧ vt = .int .i64 (tierTo t a k) ∧ k ≤ n ∧ Hid (Below w.heap.size w wr)) (fun vi _ _ => n - (intOf vi).toNat)
  case atStart => exact ⟨0, rfl, rfl, Nat.zero_le _, Lib.hid HX.out.below⟩
  case round =>
    obtain ⟨k, rfl, rfl, hk, hb⟩ := hrel
    rcases Nat.lt_or_ge k n with h | h
    · have hkI : (k : Int) < n := by omega
      rcases HT.out with h0 | ⟨b, o, rfl, hbl, hc⟩
      · omega
      obtain ⟨c0, c1, c2⟩ := hc k h
      have c0 := (hb.out.cell (p := ⟨b, o + k * 3, none⟩) hbl).trans c0
      have c1 := (hb.out.cell (p := ⟨b, o + k * 3 + 1, none⟩) hbl).trans c1
      have c2 := (hb.out.cell (p := ⟨b, o + k * 3 + 2, none⟩) hbl).trans c2
      clear hc
      have HTT := Lib.hid (show tierTo t a (k + 1) = if (t k).fr ≤ a then k else tierTo t a k from rfl)
      generalize t k = x at *
      obtain ⟨x, y, z⟩ := x
      dsimp only at c0 c1 c2
      generalize htk : tierTo t a k = j at *
      by_cases hle : x ≤ a
      · have q1 : decide (x ≤ a) = true := decide_eq_true hle
        have HT2 := Lib.hid (HTT.out.trans (if_pos hle))
        clear hle HTT htk
        go_wp2
        go_roundw
        case rel => exact ⟨k + 1, by go_num, by rw [HT2.out], h, Lib.hid (hb.out.alloc hb.out.size _)⟩
        case measure => simp [intOf]; omega
      · have q1 : decide (x ≤ a) = false := decide_eq_false hle
        have HT2 := Lib.hid (HTT.out.trans (if_neg hle))
        clear hle HTT htk
        go_wp2
        go_roundw
        case rel => exact ⟨k + 1, by go_num, by rw [HT2.out], h, Lib.hid (hb.out.alloc hb.out.size _)⟩
        case measure => simp [intOf]; omega
    · obtain rfl : n = k := by omega
      go_wp2
      go_ret
      exact ⟨rfl, hb.out⟩
end Go.Proofs.YtikkocdbaekjmaaGreatDoor
