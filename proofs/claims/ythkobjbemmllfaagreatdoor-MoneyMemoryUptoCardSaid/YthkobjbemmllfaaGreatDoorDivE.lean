/- math/big: nlz, divWW: walked. -/
import Derived.Test.YthkobjbemmllfaaGreatDoorBig1
import Derived.Test.YthkobjbemmllfaaGreatDoorDivD
namespace Go.Proofs.YthkobjbemmllfaaGreatDoor
/-- The trial quotient by the reciprocal m: no more than one and a part too low. -/
theorem recip_trial {d m x1 x0 B : Nat} (hd : d ≤ B) (h1 : (m + B) * d ≤ B * B - 1) (h2 : B * B ≤ (m + B + 1) * d) (hx1 : x1 < d) (hx0 : x0 < B) :
    ((m + B) * x1 + x0) / B * d ≤ x1 * B + x0 ∧ x1 * B + x0 < ((m + B) * x1 + x0) / B * d + d + B := by
  have hB : 0 < B := by omega
  have hq1 : ((m + B) * x1 + x0) / B * B ≤ (m + B) * x1 + x0 := Nat.div_mul_le_self _ _
  have hq2 : (m + B) * x1 + x0 < (((m + B) * x1 + x0) / B + 1) * B := by
    have := Nat.lt_div_mul_add (a := (m + B) * x1 + x0) hB
    rw [Nat.succ_mul]; exact this
  generalize ((m + B) * x1 + x0) / B = q at *
  have hT : ((m + B) * x1 + x0) * d = (m + B) * d * x1 + x0 * d := by rw [Nat.add_mul, Nat.mul_right_comm]
  have hX : (x1 * B + x0) * B = B * B * x1 + x0 * B := by rw [Nat.add_mul, Nat.mul_assoc, Nat.mul_comm x1]
  constructor
  · have a1 : q * B * d ≤ ((m + B) * x1 + x0) * d := Nat.mul_le_mul_right d hq1
    have a2 : (m + B) * d * x1 ≤ B * B * x1 := Nat.mul_le_mul_right x1 (by omega)
    have a3 : x0 * d ≤ x0 * B := Nat.mul_le_mul_left x0 hd
    have a4 : q * d * B ≤ (x1 * B + x0) * B := by rw [Nat.mul_right_comm]; omega
    exact Nat.le_of_mul_le_mul_right a4 hB
  · have b1 : ((m + B) * x1 + x0) * d < (q + 1) * B * d := Nat.mul_lt_mul_of_pos_right hq2 (by omega)
    have b2 : B * B * x1 ≤ (m + B + 1) * d * x1 := Nat.mul_le_mul_right x1 h2
    have b3 : (m + B + 1) * d * x1 = (m + B) * d * x1 + d * x1 := by rw [Nat.add_mul (m + B) 1 d, Nat.one_mul, Nat.add_mul]
    have b4 : x0 * B = x0 * d + x0 * (B - d) := by rw [← Nat.mul_add]; congr 1; omega
    have b5 : d * x1 ≤ d * B := Nat.mul_le_mul_left d (by omega)
    have b6 : x0 * (B - d) ≤ B * (B - d) := Nat.mul_le_mul_right _ (by omega)
    have b7 : d * B + B * (B - d) = B * B := by rw [Nat.mul_comm d, ← Nat.mul_add]; congr 1; omega
    have b8 : (q * d + d + B) * B = (q + 1) * B * d + B * B := by
      rw [Nat.add_mul, Nat.add_mul, Nat.add_mul q 1 B, Nat.one_mul, Nat.add_mul, Nat.mul_right_comm q d B, Nat.mul_comm d B]
    have b9 : (x1 * B + x0) * B < (q * d + d + B) * B := by omega
    exact Nat.lt_of_mul_lt_mul_right b9
/-- The quotient is the trial, one more or two more. -/
theorem recip_quot {d q X B : Nat} (hd0 : 0 < d) (hd : d ≤ B) (hdB : B ≤ 2 * d) (h1 : q * d ≤ X) (h2 : X < q * d + d + B) :
    (B ≤ X - q * d → (X - q * d - d < d → X / d = q + 1 ∧ X % d = X - q * d - d) ∧ (d ≤ X - q * d - d → X / d = q + 2 ∧ X % d = X - q * d - d - d)) ∧
    (X - q * d < B → (X - q * d < d → X / d = q ∧ X % d = X - q * d) ∧ (d ≤ X - q * d → X / d = q + 1 ∧ X % d = X - q * d - d)) := by
  have key : ∀ k, (q + k) * d ≤ X → X < (q + k) * d + d → X / d = q + k ∧ X % d = X - (q + k) * d := fun k p r => by
    have e : X / d = q + k := Nat.div_eq_of_lt_le (by omega) (by rw [Nat.add_mul (q + k), Nat.one_mul]; exact r)
    exact ⟨e, by have := Nat.div_add_mod X d; rw [e, Nat.mul_comm] at this; omega⟩
  have e0 : (q + 0) * d = q * d := rfl
  have e1 : (q + 1) * d = q * d + d := by rw [Nat.add_mul, Nat.one_mul]
  have e2 : (q + 2) * d = q * d + d + d := by rw [Nat.add_mul]; omega
  have k0 := key 0; have k1 := key 1; have k2 := key 2
  rw [e0] at k0; rw [e1] at k1; rw [e2] at k2
  refine ⟨fun hb => ⟨fun p => ?_, fun p => ?_⟩, fun hb => ⟨fun p => ?_, fun p => ?_⟩⟩
  · obtain ⟨a, b⟩ := k1 (by omega) (by omega); exact ⟨a, by omega⟩
  · obtain ⟨a, b⟩ := k2 (by omega) (by omega); exact ⟨a, by omega⟩
  · obtain ⟨a, b⟩ := k0 (by omega) (by omega); exact ⟨a, by omega⟩
  · obtain ⟨a, b⟩ := k1 (by omega) (by omega); exact ⟨a, by omega⟩
end Go.Proofs.YthkobjbemmllfaaGreatDoor
namespace Go.Proofs.YthkobjbemmllfaaGreatDoor
/-- m is the reciprocal of the normal divisor d. -/
structure Recip (d m : Nat) : Prop where
  lo : 9223372036854775808 ≤ d
  hi : d < 18446744073709551616
  m0 : m < 18446744073709551616
  m1 : (m + 18446744073709551616) * d ≤ 18446744073709551616 * 18446744073709551616 - 1
  m2 : 18446744073709551616 * 18446744073709551616 ≤ (m + 18446744073709551616 + 1) * d
theorem recip_of {d : Nat} (lo : 9223372036854775808 ≤ d) (hi : d < 18446744073709551616) : Recip d (((18446744073709551615 - d) * 18446744073709551616 + 18446744073709551615) / d) := by
  have h := Nat.div_add_mod ((18446744073709551615 - d) * 18446744073709551616 + 18446744073709551615) d
  have hr := Nat.mod_lt ((18446744073709551615 - d) * 18446744073709551616 + 18446744073709551615) (show 0 < d by omega)
  have e : (18446744073709551615 - d) * 18446744073709551616 + 18446744073709551615 + 18446744073709551616 * d = 18446744073709551616 * 18446744073709551616 - 1 := by omega
  have hm0 : ((18446744073709551615 - d) * 18446744073709551616 + 18446744073709551615) / d < 18446744073709551616 := by
    refine (Nat.div_lt_iff_lt_mul (by omega)).2 ?_
    omega
  generalize ((18446744073709551615 - d) * 18446744073709551616 + 18446744073709551615) / d = m at *
  generalize ((18446744073709551615 - d) * 18446744073709551616 + 18446744073709551615) % d = r at *
  have h1 : (m + 18446744073709551616) * d = d * m + 18446744073709551616 * d := by rw [Nat.add_mul, Nat.mul_comm m]
  have h2 : (m + 18446744073709551616 + 1) * d = d * m + 18446744073709551616 * d + d := by rw [Nat.add_mul, h1, Nat.one_mul]
  exact ⟨lo, hi, hm0, by omega, by omega⟩
theorem ww_q (m x1 x0 : Nat) : m * x1 / 18446744073709551616 + x1 + (m * x1 % 18446744073709551616 + x0) / 18446744073709551616 = ((m + 18446744073709551616) * x1 + x0) / 18446744073709551616 := by
  rw [Nat.add_mul]
  generalize m * x1 = p
  omega
/-- The trial quotient, as the two sums of words make it. -/
theorem ww_trial {d m x1 x0 : Nat} (h : Recip d m) (hx1 : x1 < d) (hx0 : x0 < 18446744073709551616) :
    ∃ q, adS (m * x1 / 18446744073709551616) x1 (adC (m * x1 % 18446744073709551616) x0 0) = q ∧ q < 18446744073709551616 ∧ q * d ≤ x1 * 18446744073709551616 + x0 ∧ x1 * 18446744073709551616 + x0 < q * d + d + 18446744073709551616 := by
  obtain ⟨t1, t2⟩ := recip_trial (Nat.le_of_lt h.hi) h.m1 h.m2 hx1 hx0
  have hw := ww_q m x1 x0
  have hq : ((m + 18446744073709551616) * x1 + x0) / 18446744073709551616 < 18446744073709551616 := by
    rcases Nat.lt_or_ge (((m + 18446744073709551616) * x1 + x0) / 18446744073709551616) 18446744073709551616 with h' | h'
    · exact h'
    · exfalso
      have := Nat.mul_le_mul_right d h'
      have h1 := Nat.mul_le_mul_right 18446744073709551616 (show x1 + 1 ≤ d from hx1)
      rw [Nat.mul_comm 18446744073709551616 d] at this
      omega
  refine ⟨((m + 18446744073709551616) * x1 + x0) / 18446744073709551616, ?_, hq, t1, t2⟩
  unfold adS adC
  rw [Nat.add_zero, hw, Nat.mod_eq_of_lt hq]
/-- What is left, as the two differences of words make it. -/
theorem ww_rest {d q x1 x0 : Nat} (hd : d < 18446744073709551616) (hx0 : x0 < 18446744073709551616) (h1 : q * d ≤ x1 * 18446744073709551616 + x0) (h2 : x1 * 18446744073709551616 + x0 < q * d + d + 18446744073709551616) :
    sbS x0 (d * q % 18446744073709551616) 0 = (x1 * 18446744073709551616 + x0 - q * d) % 18446744073709551616 ∧
    sbS x1 (d * q / 18446744073709551616) (sbC x0 (d * q % 18446744073709551616) 0) = (x1 * 18446744073709551616 + x0 - q * d) / 18446744073709551616 := by
  unfold sbS sbC
  rw [Nat.mul_comm d q]
  generalize q * d = p at *
  constructor
  · omega
  · split <;> omega
end Go.Proofs.YthkobjbemmllfaaGreatDoor
namespace Go.Proofs.YthkobjbemmllfaaGreatDoor
open Go.RowKit

theorem nlz_any (y : Nat) (hy : y < 18446744073709551616) (w : World) : Calls Tryz.prog 155 #[.int .u64 y] w fun e w' => e = .returned (.int .u64 ((64 - Lib.bitLen y : Nat) : Int)) ∧ w = w' := by
  have a1 : Calls Tryz.prog 182 #[.int .u64 y] w fun e w' => e = .returned (.int .i64 ((64 - Lib.bitLen y : Nat) : Int)) ∧ w = w' := by
    refine (Tryz.bits_LeadingZeros y w (by omega) (by omega)).mono ?_
    rintro e w' ⟨rfl, rfl⟩
    have := Lib.bitLen_le y 64 (Nat.le_refl _) hy
    refine ⟨?_, rfl⟩
    rw [show ((y : Int)).toNat = y from rfl]
    congr 2
    omega
  have hb : 64 - Lib.bitLen y ≤ 64 := by omega
  clear hy
  generalize 64 - Lib.bitLen y = s at *
  go_enter Tryz.func155, Tryz.ntmps155
  go_wp2_with fail
  refine a1.mono ?_
  clear a1
  rintro e w' ⟨rfl, rfl⟩
  go_wp2
  go_ret
  exact ⟨rfl, rfl⟩
theorem mulw_any (x y : Nat) (hx : x < 18446744073709551616) (hy : y < 18446744073709551616) (w : World) : Calls Tryz.prog 141 #[.int .u64 x, .int .u64 y] w fun e w' => e = .returned (.tuple #[.int .u64 ((x * y / 18446744073709551616 : Nat) : Int), .int .u64 ((x * y % 18446744073709551616 : Nat) : Int)]) ∧ w = w' :=
  (Tryz.bits_Mul x y hx hy w).mono fun _ _ h => ⟨h.1, h.2.symm⟩
theorem ret2u {a b c d : Int} (h : a = b) (k : c = d) : Ending.returned (.tuple #[.int .u64 a, .int .u64 c]) = .returned (.tuple #[.int .u64 b, .int .u64 d]) := by rw [h, k]
theorem adC_le {x y : Nat} (hx : x < 18446744073709551616) (hy : y < 18446744073709551616) : adC x y 0 ≤ 1 := by unfold adC; omega
theorem sbC_le (x y b : Nat) : sbC x y b ≤ 1 := by unfold sbC; split <;> omega

set_option maxRecDepth 100000 in
set_option maxHeartbeats 4000000 in
theorem divWW_any (x1 x0 y m s : Nat) (hN : Norm y s) (hsl : 64 - Lib.bitLen y = s) (hm : Recip (y * 2 ^ s) m) (hx1 : x1 < y) (hx0 : x0 < 18446744073709551616) (w : World) :
    Calls Tryz.prog 181 #[.int .u64 x1, .int .u64 x0, .int .u64 y, .int .u64 m] w fun e w' => e = .returned (.tuple #[.int .u64 (((x1 * 18446744073709551616 + x0) / y : Nat) : Int), .int .u64 (((x1 * 18446744073709551616 + x0) % y : Nat) : Int)]) ∧ w = w' := by
  have hyY : y * 1 ≤ y * 2 ^ s := Nat.mul_le_mul_left y (Nat.two_pow_pos s)
  have hYh := hN.hi
  have a1 := nlz_any y (by omega) w
  rw [hsl] at a1
  have hs63 := hN.le
  have HRES := Lib.hid (up_div x1 x0 y s hs63)
  obtain ⟨Y, hY⟩ : ∃ Y, Y = y * 2 ^ s := ⟨_, rfl⟩
  obtain ⟨U, hU⟩ : ∃ U, U = upW x1 x0 s := ⟨_, rfl⟩
  obtain ⟨V, hV⟩ : ∃ V, V = x0 * 2 ^ s % 18446744073709551616 := ⟨_, rfl⟩
  have hUY : U < Y := by rw [hU, hY]; exact up_lt hs63 hx1 hx0
  have hVl : V < 18446744073709551616 := by rw [hV]; exact Nat.mod_lt _ (by decide)
  have hHi : x1 * 2 ^ s < 18446744073709551616 := by
    have := Nat.mul_le_mul_right (2 ^ s) (show x1 ≤ y by omega)
    omega
  have E1 : IntKind.u64.wrap ((y : Int) * 2 ^ s) = (Y : Int) := by rw [wshl, ← hY, Nat.mod_eq_of_lt (by omega)]
  have E4 : IntKind.u64.wrap ((x1 : Int) * 2 ^ s) = ((x1 * 2 ^ s : Nat) : Int) := by rw [wshl, Nat.mod_eq_of_lt hHi]
  have E5 : (x0 : Int) / 2 ^ (64 - s) = ((x0 / 2 ^ (64 - s) : Nat) : Int) := wshr _ _
  have E6 : bits .or .u64 ((x1 * 2 ^ s : Nat) : Int) ((x0 / 2 ^ (64 - s) : Nat) : Int) = (U : Int) := by
    rw [bits_or_u64_nat _ _ hHi (Nat.lt_of_le_of_lt (Nat.div_le_self _ _) hx0), up_or hs63 hx0, ← hU]
  have E7 : IntKind.u64.wrap ((x0 : Int) * 2 ^ s) = (V : Int) := by rw [wshl, ← hV]
  have hz : s = 0 → U = x1 ∧ V = x0 ∧ Y = y := fun h => by
    rw [hU, hV, hY, h]
    unfold upW
    omega
  rw [← hY, ← hU, ← hV] at HRES
  rw [← hY] at hm hYh
  have HZ := Lib.hid hz
  have hUM : U < 18446744073709551616 := by omega
  obtain ⟨q, hq, hqM, h1, h2⟩ := ww_trial hm hUY hVl
  obtain ⟨r0e, r1e⟩ := ww_rest hm.hi hVl h1 h2
  have HQ := Lib.hid (recip_quot (d := Y) (q := q) (X := U * 18446744073709551616 + V) (B := 18446744073709551616) (by omega) (by omega) (by have := hm.lo; omega) h1 h2)
  obtain ⟨R, hR⟩ : ∃ R, R = U * 18446744073709551616 + V - q * Y := ⟨_, rfl⟩
  have hRl : R < Y + 18446744073709551616 := by omega
  rw [← hR] at r0e r1e HQ
  have b1 := mulw_any m U hm.m0 hUM w
  have b4 := mulw_any Y q hYh hqM w
  have ht0 : m * U % 18446744073709551616 < 18446744073709551616 := Nat.mod_lt _ (by decide)
  obtain ⟨t1, ht1⟩ : ∃ t, t = m * U / 18446744073709551616 := ⟨_, rfl⟩
  obtain ⟨t0, ht0e⟩ : ∃ t, t = m * U % 18446744073709551616 := ⟨_, rfl⟩
  obtain ⟨p1, hp1⟩ : ∃ t, t = Y * q / 18446744073709551616 := ⟨_, rfl⟩
  obtain ⟨p0, hp0⟩ : ∃ t, t = Y * q % 18446744073709551616 := ⟨_, rfl⟩
  rw [← ht1, ← ht0e] at b1 hq
  rw [← ht0e] at ht0
  rw [← hp1, ← hp0] at b4 r1e
  rw [← hp0] at r0e
  have b2 := badd_any t0 V 0 (by decide) w
  have b3 := badd_any t1 U (adC t0 V 0) (adC_le ht0 hVl) w
  have b5 := bsub_any V p0 0 (by decide) w
  have b6 := bsub_any U p1 (sbC V p0 0) (sbC_le _ _ _) w
  rw [hq] at b3
  rw [r0e] at b5
  rw [r1e] at b6
  generalize adC t0 V 0 = c at *
  generalize adS t0 V 0 = s2 at *
  generalize adC t1 U c = c2 at *
  generalize sbC V p0 0 = b at *
  generalize sbC U p1 b = bb at *
  have HX := Lib.hid (show (U * 18446744073709551616 + V) / Y < 18446744073709551616 by
    refine (Nat.div_lt_iff_lt_mul (by omega)).2 ?_
    have := Nat.mul_le_mul_right 18446744073709551616 (show U + 1 ≤ Y from hUY)
    rw [Nat.mul_comm 18446744073709551616 Y]
    omega)
  have HB := Lib.hid (And.intro hqM (And.intro hRl (And.intro hm.lo hYh)))
  clear hN hsl hm hx1 hx0 hyY hYh hY hU hV hHi hUY hVl hUM hq hqM h1 h2 r0e r1e hR hRl ht0 ht1 ht0e hp1 hp0 hz
  generalize x1 * 2 ^ s = HI at *
  generalize x0 / 2 ^ (64 - s) = LO at *
  go_enter Tryz.func181, Tryz.ntmps181
  go_wp2_with fail
  refine a1.mono ?_
  clear a1
  rintro e w' ⟨rfl, rfl⟩
  go_upto_if 26 with fail
  go_cut [0, 1, 2] from 27 to 40 (fun u v t wx => u = .int .u64 U ∧ v = .int .u64 V ∧ t = .int .u64 Y ∧ w = wx)
  case first =>
    by_cases h0 : s = 0
    · have HZ0 := Lib.hid (HZ.out h0)
      have k2 : ((s : Int) == 0) = true := by simp; omega
      have k1 : ((s : Int) != 0) = false := by simp; omega
      clear E1 E4 E5 E6 E7 h0 HZ
      go_wp2
      go_meet
      obtain ⟨z1, z2, z3⟩ := HZ0.out
      exact ⟨by rw [z1], by rw [z2], by rw [z3], rfl⟩
    · have k1 : ((s : Int) != 0) = true := by simp; omega
      have k2 : ((s : Int) == 0) = false := by simp; omega
      clear h0
      go_wp2
      go_meet
      exact ⟨rfl, rfl, rfl, rfl⟩
  case rest =>
    obtain ⟨rfl, rfl, rfl, rfl⟩ := hcut
    clear E1 E4 E5 E6 E7 HZ
    go_wp2_with fail
    refine b1.mono ?_
    clear b1
    rintro e w' ⟨rfl, rfl⟩
    go_wp2_with fail
    refine b2.mono ?_
    clear b2
    rintro e w' ⟨rfl, rfl⟩
    go_wp2_with fail
    refine b3.mono ?_
    clear b3
    rintro e w' ⟨rfl, rfl⟩
    go_wp2_with fail
    refine b4.mono ?_
    clear b4
    rintro e w' ⟨rfl, rfl⟩
    go_wp2_with fail
    refine b5.mono ?_
    clear b5
    rintro e w' ⟨rfl, rfl⟩
    obtain ⟨hqM, hRl, hY1, hY2⟩ := HB.out
    rcases Nat.lt_or_ge R 18446744073709551616 with hRB | hRB
    · obtain ⟨k1, k2⟩ := HQ.out.2 hRB
      have e0 : R / 18446744073709551616 = 0 := by omega
      have e1 : R % 18446744073709551616 = R := by omega
      rw [e0] at b6
      rw [e1]
      rcases Nat.lt_or_ge R Y with hRY | hRY
      · obtain ⟨k3, k4⟩ := k1 hRY
        have t1 : decide (Y ≤ R) = false := decide_eq_false (by omega)
        have HG := Lib.hid (show (((q : Nat) : Int) = (((x1 * 18446744073709551616 + x0) / y : Nat) : Int)) ∧ (((R : Nat) : Int) / 2 ^ s = (((x1 * 18446744073709551616 + x0) % y : Nat) : Int)) by
          have h := HRES.out
          rw [k3, k4] at h
          exact ⟨by rw [h.1], by rw [wshr, h.2]⟩)
        clear hqM hRl hY1 hY2 HQ HRES HB hRB k1 k2 e0 e1 hRY k3 k4
        go_wp2_with fail
        refine b6.mono ?_
        clear b6
        rintro e w' ⟨rfl, rfl⟩
        go_wp2
        go_ret2
        exact ⟨ret2u HG.out.1 HG.out.2, rfl⟩
      · obtain ⟨k3, k4⟩ := k2 hRY
        have t1 : decide (Y ≤ R) = true := decide_eq_true (by omega)
        have HG := Lib.hid (show (((q + 1 : Nat) : Int) = (((x1 * 18446744073709551616 + x0) / y : Nat) : Int)) ∧ (((R - Y : Nat) : Int) / 2 ^ s = (((x1 * 18446744073709551616 + x0) % y : Nat) : Int)) by
          have h := HRES.out
          rw [k3, k4] at h
          exact ⟨by rw [h.1], by rw [wshr, h.2]⟩)
        have hq1 : q + 1 < 18446744073709551616 := by have := HX.out; rw [k3] at this; exact this
        have g1 : IntKind.u64.wrap ((q : Int) + 1) = ((q + 1 : Nat) : Int) := by rw [IntKind.wrap_u64]; omega
        have g2 : IntKind.u64.wrap ((R : Int) - (Y : Int)) = ((R - Y : Nat) : Int) := by rw [IntKind.wrap_u64]; omega
        obtain ⟨R2, hR2⟩ : ∃ n, n = R - Y := ⟨_, rfl⟩
        obtain ⟨Q2, hQ2⟩ : ∃ n, n = q + 1 := ⟨_, rfl⟩
        rw [← hR2] at g2 HG
        rw [← hQ2] at g1 HG
        clear hqM hRl hY1 hY2 HQ HRES HB hRB k1 k2 e0 e1 hRY k3 k4 hq1 hR2 hQ2
        go_wp2_with fail
        refine b6.mono ?_
        clear b6
        rintro e w' ⟨rfl, rfl⟩
        go_wp2
        go_ret2
        exact ⟨ret2u HG.out.1 HG.out.2, rfl⟩
    · obtain ⟨k1, k2⟩ := HQ.out.1 hRB
      have e0 : R / 18446744073709551616 = 1 := by omega
      have e1 : R % 18446744073709551616 = R - 18446744073709551616 := by omega
      rw [e0] at b6
      rw [e1]
      have g0 : IntKind.u64.wrap (((R - 18446744073709551616 : Nat) : Int) - (Y : Int)) = ((R - Y : Nat) : Int) := by rw [IntKind.wrap_u64]; omega
      rcases Nat.lt_or_ge (R - Y) Y with hRY | hRY
      · obtain ⟨k3, k4⟩ := k1 hRY
        have t1 : decide (Y ≤ R - Y) = false := decide_eq_false (by omega)
        have HG := Lib.hid (show (((q + 1 : Nat) : Int) = (((x1 * 18446744073709551616 + x0) / y : Nat) : Int)) ∧ (((R - Y : Nat) : Int) / 2 ^ s = (((x1 * 18446744073709551616 + x0) % y : Nat) : Int)) by
          have h := HRES.out
          rw [k3, k4] at h
          exact ⟨by rw [h.1], by rw [wshr, h.2]⟩)
        have hq1 : q + 1 < 18446744073709551616 := by have := HX.out; rw [k3] at this; exact this
        have g1 : IntKind.u64.wrap ((q : Int) + 1) = ((q + 1 : Nat) : Int) := by rw [IntKind.wrap_u64]; omega
        obtain ⟨R1, hR1⟩ : ∃ n, n = R - 18446744073709551616 := ⟨_, rfl⟩
        obtain ⟨R2, hR2⟩ : ∃ n, n = R - Y := ⟨_, rfl⟩
        obtain ⟨Q2, hQ2⟩ : ∃ n, n = q + 1 := ⟨_, rfl⟩
        rw [← hR1, ← hR2] at g0
        rw [← hR1]
        rw [← hR2] at HG t1
        rw [← hQ2] at g1 HG
        clear hqM hRl hY1 hY2 HQ HRES HB hRB k1 k2 e0 e1 hRY k3 k4 hq1 hR1 hR2 hQ2
        go_wp2_with fail
        refine b6.mono ?_
        clear b6
        rintro e w' ⟨rfl, rfl⟩
        go_wp2
        go_ret2
        exact ⟨ret2u HG.out.1 HG.out.2, rfl⟩
      · obtain ⟨k3, k4⟩ := k2 hRY
        have t1 : decide (Y ≤ R - Y) = true := decide_eq_true (by omega)
        have HG := Lib.hid (show (((q + 2 : Nat) : Int) = (((x1 * 18446744073709551616 + x0) / y : Nat) : Int)) ∧ (((R - Y - Y : Nat) : Int) / 2 ^ s = (((x1 * 18446744073709551616 + x0) % y : Nat) : Int)) by
          have h := HRES.out
          rw [k3, k4] at h
          exact ⟨by rw [h.1], by rw [wshr, h.2]⟩)
        have hq1 : q + 2 < 18446744073709551616 := by have := HX.out; rw [k3] at this; exact this
        have g1 : IntKind.u64.wrap ((q : Int) + 1) = ((q + 1 : Nat) : Int) := by rw [IntKind.wrap_u64]; omega
        have g3 : IntKind.u64.wrap (((q + 1 : Nat) : Int) + 1) = ((q + 2 : Nat) : Int) := by rw [IntKind.wrap_u64]; omega
        have g2 : IntKind.u64.wrap (((R - Y : Nat) : Int) - (Y : Int)) = ((R - Y - Y : Nat) : Int) := by rw [IntKind.wrap_u64]; omega
        obtain ⟨R1, hR1⟩ : ∃ n, n = R - 18446744073709551616 := ⟨_, rfl⟩
        obtain ⟨R3, hR3⟩ : ∃ n, n = R - Y - Y := ⟨_, rfl⟩
        rw [← hR3] at g2 HG
        obtain ⟨R2, hR2⟩ : ∃ n, n = R - Y := ⟨_, rfl⟩
        obtain ⟨Q2, hQ2⟩ : ∃ n, n = q + 1 := ⟨_, rfl⟩
        obtain ⟨Q3, hQ3⟩ : ∃ n, n = q + 2 := ⟨_, rfl⟩
        rw [← hR1, ← hR2] at g0
        rw [← hR1]
        rw [← hR2] at g2 t1
        rw [← hQ2] at g1 g3
        rw [← hQ3] at g3 HG
        clear hqM hRl hY1 hY2 HQ HRES HB hRB k1 k2 e0 e1 hRY k3 k4 hq1 hR1 hR2 hR3 hQ2 hQ3
        go_wp2_with fail
        refine b6.mono ?_
        clear b6
        rintro e w' ⟨rfl, rfl⟩
        go_wp2
        go_ret2
        exact ⟨ret2u HG.out.1 HG.out.2, rfl⟩
end Go.Proofs.YthkobjbemmllfaaGreatDoor
