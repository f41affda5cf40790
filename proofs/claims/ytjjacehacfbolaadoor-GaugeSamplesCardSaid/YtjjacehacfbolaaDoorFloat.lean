import Ieee.Arith
import Derived.Test.YtjjacehacfbolaaDoorRound
namespace Rnd
open Ieee

theorem sl : Format.leastPlace single = -149 := by decide
theorem sb : Format.binade single = 2 ^ 23 := by decide
theorem si : Format.infRung single = 2139095040 := by decide
theorem sw : Format.signWeight single = 2 ^ 31 := by decide

theorem cut_even (n k d : Nat) (neg : Bool) : Toward.even.cut neg n d = rhe (n * 2 ^ k) (d + k) := by
  rw [rhe_scale]
  unfold Toward.cut
  simp only [Nat.shiftLeft_eq, Nat.one_mul]
  by_cases hd : d ≤ n.log2 + 2
  · rw [Nat.min_eq_left hd]
    unfold rhe
    congr 1
    by_cases h1 : 2 ^ d < 2 * (n % 2 ^ d)
    · simp [h1]
    · by_cases h2 : 2 ^ d = 2 * (n % 2 ^ d) ∧ n / 2 ^ d % 2 = 1
      · rw [if_pos (Or.inr h2)]; have h3 := h2.1; have h4 := h2.2; simp only [h4, ← h3]; simp
      · rw [if_neg (by intro h; rcases h with h | h; exact h1 h; exact h2 h)]
        have : (2 ^ d == 2 * (n % 2 ^ d) && n / 2 ^ d % 2 == 1) = false := by
          rw [Bool.eq_false_iff]; intro h; apply h2; simpa using h
        rw [this]; simp [h1]
  · rw [Nat.min_eq_right (by omega)]
    have hl : n < 2 ^ (n.log2 + 1) := Nat.lt_log2_self
    have hp : 2 ^ (n.log2 + 2) = 2 * 2 ^ (n.log2 + 1) := by rw [Nat.pow_succ, Nat.mul_comm]
    have hq : 2 ^ (n.log2 + 2) ≤ 2 ^ d := Nat.pow_le_pow_right (by decide) (by omega)
    rw [rhe_small (by omega), Nat.div_eq_of_lt (by omega), Nat.mod_eq_of_lt (by omega)]
    generalize 2 ^ (n.log2 + 2) = g at *
    have h1 : ¬ g < 2 * n := by omega
    have h2 : ¬ g = 2 * n := by omega
    simp [h1]

/-- The word nearest to m * 2^p, by R. -/
theorem nearest_R (neg : Bool) (m : Nat) (p : Int) (hp : -176 ≤ p) :
    single.nearest neg m p = single.word neg (min (R (m * 2 ^ (p + 176).toNat)) 2139095040) := by
  obtain ⟨k, hk⟩ : ∃ k : Nat, p = (k : Int) - 176 := ⟨(p + 176).toNat, by omega⟩
  subst hk
  rw [show ((k : Int) - 176 + 176).toNat = k from by omega]
  unfold Format.nearest
  rw [si, sl, sb]
  by_cases h0 : m = 0
  · subst h0; rw [if_pos rfl, Nat.zero_mul, R_zero]; rfl
  · rw [if_neg h0]
    have hl : (m * 2 ^ k).log2 = m.log2 + k := log2_mul_pow k h0
    have hdd : dd (m * 2 ^ k) = max 27 (m.log2 + k - 23) := by unfold dd; rw [hl]
    have hlast : max ((k : Int) - 176 + (m.log2 : Int) - (single.fractionBits : Nat)) (-149) = (dd (m * 2 ^ k) : Int) - 176 := by
      show max ((k : Int) - 176 + (m.log2 : Int) - (23 : Nat)) (-149) = _
      rw [hdd]; omega
    simp only [hlast]
    generalize hD : dd (m * 2 ^ k) = D at *
    rw [show ((k : Int) - 176 - ((D : Int) - 176)).toNat = k - D from by omega, show ((D : Int) - 176 - ((k : Int) - 176)).toNat = D - k from by omega,
      show ((D : Int) - 176 - -149).toNat = D - 27 from by omega]
    refine congrArg (fun t => single.word neg (min t 2139095040)) ?_
    unfold R
    rw [hD]
    refine congrArg (fun t => (D - 27) * 2 ^ 23 + t) ?_
    rw [cut_even _ (min k D), Nat.shiftLeft_eq, Nat.mul_assoc, ← Nat.pow_add, show k - D + min k D = k from by omega, show D - k + min k D = D from by omega]

/-- The rung of a word. -/
def rung (b : Nat) : Nat := b % 2 ^ 31

theorem read_fin {b : Nat} (h : rung b < 2139095040) : ∃ m p, single.read b = .number (b / 2 ^ 31 % 2 == 1) m p ∧ -149 ≤ p ∧ m * 2 ^ (p + 176).toNat = A (rung b) := by
  unfold Format.read
  rw [sw, sb, si, sl]
  unfold rung at *
  by_cases h1 : b % 2 ^ 31 < 2 ^ 23
  · simp only [if_pos h1]
    refine ⟨_, _, rfl, by omega, ?_⟩
    unfold A; rw [if_pos h1]; rfl
  · simp only [if_neg h1, if_pos h]
    refine ⟨_, _, rfl, by omega, ?_⟩
    unfold A
    rw [if_neg h1, Nat.mul_assoc, ← Nat.pow_add]
    congr 2
    omega

theorem read_inf {b : Nat} (h : rung b = 2139095040) : single.read b = .infinity (b / 2 ^ 31 % 2 == 1) := by
  unfold Format.read rung at *
  rw [sw, sb, si]
  simp [h]

theorem read_nan {b : Nat} (h : 2139095040 < rung b) : ∃ f, single.read b = .nan (b / 2 ^ 31 % 2 == 1) f := by
  unfold Format.read rung at *
  rw [sw, sb, si]
  simp only
  rw [if_neg (by omega), if_neg (by omega), if_neg (by omega)]
  exact ⟨_, rfl⟩

/-- What a finite word stands for, in units of 2^-176, with its sign. -/
def sv (b : Nat) : Int := if b / 2 ^ 31 % 2 == 1 then -(A (rung b) : Int) else (A (rung b) : Int)

theorem signed_eq (s : Bool) (m k : Nat) : signed s m k = if s then -((m * 2 ^ k : Nat) : Int) else ((m * 2 ^ k : Nat) : Int) := by
  unfold signed; rw [Nat.shiftLeft_eq]

theorem compare_mul (a b : Int) (k : Nat) : compare a b = compare (a * (2 ^ k : Nat)) (b * (2 ^ k : Nat)) := by
  have hp : (0 : Int) < (2 ^ k : Nat) := by exact_mod_cast Nat.two_pow_pos k
  simp only [compare, compareOfLessAndEq, Int.mul_lt_mul_right hp, Int.mul_eq_mul_right_iff (Int.ne_of_gt hp)]

/-- Two finite words stand to each other as what they stand for. -/
theorem order_fin {a b : Nat} (ha : rung a < 2139095040) (hb : rung b < 2139095040) : single.order a b = some (compare (sv a) (sv b)) := by
  obtain ⟨m, p, e1, hp, h1⟩ := read_fin ha
  obtain ⟨n, q, e2, hq, h2⟩ := read_fin hb
  unfold Format.order
  rw [e1, e2]
  unfold Datum.order
  simp only
  congr 1
  unfold sv
  rw [← h1, ← h2, compare_mul _ _ (min p q + 176).toNat, signed_eq, signed_eq]
  have f1 : m * 2 ^ (p - min p q).toNat * 2 ^ (min p q + 176).toNat = m * 2 ^ (p + 176).toNat := by
    rw [Nat.mul_assoc, ← Nat.pow_add]; congr 2; omega
  have f2 : n * 2 ^ (q - min p q).toNat * 2 ^ (min p q + 176).toNat = n * 2 ^ (q + 176).toNat := by
    rw [Nat.mul_assoc, ← Nat.pow_add]; congr 2; omega
  have g : ∀ (s : Bool) (x y : Nat), (if s then -(x : Int) else (x : Int)) * ((y : Nat) : Int) = if s then -((x * y : Nat) : Int) else ((x * y : Nat) : Int) := by
    intro s x y; cases s <;> simp [Int.neg_mul]
  rw [g, g, f1, f2]

/-- A good health: from 0 on and at most 1. -/
def good (b : Nat) : Bool := decide (b ≤ 1065353216) || b == 2147483648

theorem fge0 {b : Nat} (hb : b < 2 ^ 32) : (single.order b 0 == some .gt || single.order b 0 == some .eq) = decide (b ≤ 2139095040 ∨ b = 2147483648) := by
  by_cases h : rung b < 2139095040
  · rw [order_fin h (by decide)]
    have e0 : sv 0 = 0 := by decide
    rw [e0]
    unfold sv rung at *
    by_cases hs : b / 2 ^ 31 % 2 = 1
    · by_cases hz : b % 2 ^ 31 = 0
      · have : b = 2147483648 := by omega
        subst this; decide
      · have : 0 < A (b % 2 ^ 31) := by have := A_lt (w := 0) (v := b % 2 ^ 31) (by omega); omega
        have c : compare (-(A (b % 2 ^ 31) : Int)) 0 = .lt := by
          rw [Int.compare_eq_lt]; omega
        simp [hs, c]; omega
    · have hx : b ≤ 2139095040 := by omega
      have hs' : (b / 2 ^ 31 % 2 == 1) = false := by simpa using hs
      rw [hs']
      by_cases hz : A (b % 2 ^ 31) = 0
      · rw [hz]; simp [hx]
      · have c : compare ((A (b % 2 ^ 31) : Int)) 0 = .gt := by
          rw [Int.compare_eq_gt]; omega
        simp only [Bool.false_eq_true, if_false, c]; simp [hx]
  · by_cases h2 : rung b = 2139095040
    · unfold Format.order
      rw [read_inf h2]
      obtain ⟨m, p, e, _⟩ := read_fin (b := 0) (by decide)
      rw [e]
      unfold Datum.order rung at *
      by_cases hs : b / 2 ^ 31 % 2 = 1
      · simp [hs]; omega
      · simp [hs]; omega
    · unfold Format.order
      obtain ⟨f, e⟩ := read_nan (b := b) (by omega)
      rw [e]
      unfold Datum.order rung at *
      simp
      omega


theorem A_one : A 1065353216 = 2 ^ 176 := by decide

theorem fle1 {b : Nat} (hb : b ≤ 2139095040 ∨ b = 2147483648) : (single.order b 1065353216 == some .lt || single.order b 1065353216 == some .eq) = good b := by
  rcases hb with hb | rfl
  · by_cases h : b < 2139095040
    · have hr : rung b = b := by unfold rung; omega
      rw [order_fin (by rw [hr]; exact h) (by decide)]
      have e1 : sv 1065353216 = (A 1065353216 : Int) := by
        unfold sv; rw [show (1065353216 / 2 ^ 31 % 2 == 1) = false from by decide]; rfl
      have e2 : sv b = (A b : Int) := by
        unfold sv; rw [show (b / 2 ^ 31 % 2 == 1) = false from by simp; omega, hr]; rfl
      rw [e1, e2]
      unfold good
      by_cases hle : b ≤ 1065353216
      · by_cases heq : b = 1065353216
        · subst heq; simp
        · have c : compare (A b : Int) (A 1065353216 : Int) = .lt := by
            rw [Int.compare_eq_lt]; have := A_lt (w := b) (v := 1065353216) (by omega); omega
          rw [c]; simp [hle]
      · have c : compare (A b : Int) (A 1065353216 : Int) = .gt := by
          rw [Int.compare_eq_gt]; have := A_lt (w := 1065353216) (v := b) (by omega); omega
        have : ¬ b = 2147483648 := by omega
        rw [c]; simp [hle, this]
    · have : b = 2139095040 := by omega
      subst this; decide
  · decide

/-- Go's 'h >= 0 && h <= 1' on bits. -/
theorem good_eq {b : Nat} (hb : b < 2 ^ 32) :
    ((single.order b 0 == some .gt || single.order b 0 == some .eq) && (single.order b 1065353216 == some .lt || single.order b 1065353216 == some .eq)) = good b := by
  rw [fge0 hb]
  by_cases h : b ≤ 2139095040 ∨ b = 2147483648
  · rw [fle1 h]; simp [h]
  · have : good b = false := by unfold good; simp; omega
    simp [h, this]

theorem good_rung {b : Nat} (h : good b = true) : rung b ≤ 1065353216 := by
  unfold good at h; simp at h; unfold rung; omega

theorem good_lt {b : Nat} (h : good b = true) : b < 2 ^ 32 := by
  unfold good at h; simp at h; omega

theorem good_sv {b : Nat} (h : good b = true) : sv b = (A (rung b) : Int) := by
  unfold good at h; simp at h
  rcases h with h | rfl
  · unfold sv; rw [show (b / 2 ^ 31 % 2 == 1) = false from by simp; omega]; rfl
  · decide

theorem compare_A (a b : Nat) : compare (A a : Int) (A b : Int) = compare a b := by
  rcases Nat.lt_trichotomy a b with h | rfl | h
  · rw [Int.compare_eq_lt.2 (by have := A_lt h; omega), Nat.compare_eq_lt.2 h]
  · simp
  · rw [Int.compare_eq_gt.2 (by have := A_lt h; omega), Nat.compare_eq_gt.2 h]

/-- Good healths stand to each other as their rungs. -/
theorem order_good {a b : Nat} (ha : good a = true) (hb : good b = true) : single.order a b = some (compare (rung a) (rung b)) := by
  have h1 := good_rung ha
  have h2 := good_rung hb
  rw [order_fin (by omega) (by omega), good_sv ha, good_sv hb, compare_A]

theorem word_rung {b : Nat} (hb : b < 2 ^ 32) : single.word (b / 2 ^ 31 % 2 == 1) (rung b) = b := by
  unfold Format.word rung; rw [sw]
  by_cases h : b / 2 ^ 31 % 2 = 1
  · simp [h]; omega
  · simp [h]; omega

theorem read_875 : single.read 1063256064 = .number false (7 * 2 ^ 21) (-24) := by decide

/-- A good health by 0.875. -/
theorem mul_875 {b : Nat} (h : good b = true) : single.mul b 1063256064 = some (single.word (b / 2 ^ 31 % 2 == 1) (R (7 * A (rung b) / 8))) := by
  have h1 := good_rung h
  obtain ⟨m, p, e, hp, hA⟩ := read_fin (b := b) (by omega)
  unfold Format.mul
  rw [e, read_875]
  unfold Datum.product
  simp only [Option.map_some, Bool.xor_false]
  unfold Format.write
  simp only
  rw [nearest_R _ _ _ (by omega)]
  have e1 : m * (7 * 2 ^ 21) * 2 ^ (p + -24 + 176).toNat = 7 * A (rung b) / 8 := by
    rw [← hA]
    obtain ⟨k, hk⟩ : ∃ k : Nat, p = (k : Int) - 149 := ⟨(p + 149).toNat, by omega⟩
    subst hk
    rw [show ((k : Int) - 149 + -24 + 176).toNat = k + 3 from by omega, show ((k : Int) - 149 + 176).toNat = k + 3 + 24 from by omega, Nat.pow_add 2 (k + 3) 24]
    rw [Nat.mul_right_comm, ← Nat.mul_assoc m]
    generalize m * 2 ^ (k + 3) = t
    omega
  rw [e1]
  have hle : R (7 * A (rung b) / 8) ≤ 1065353216 := by
    have := R_mono (x := 7 * A (rung b) / 8) (y := A 1065353216) (by have := A_mono h1; omega)
    rwa [R_A] at this
  rw [Nat.min_eq_left (by omega)]

/-- The sum of something from 0 to 1 and of a positive float of at most 1. -/
theorem add_small {a c : Nat} (ha : good a = true) (hc : c ≤ 1065353216) (hs : A (rung a) + A c ≤ 2 ^ 176) :
    single.add a c = some (R (A (rung a) + A c)) := by
  have h1 := good_rung ha
  have hrc : rung c = c := by unfold rung; omega
  obtain ⟨m, i, e1, hi, hA1⟩ := read_fin (b := a) (by omega)
  obtain ⟨n, j, e2, hj, hA2⟩ := read_fin (b := c) (by omega)
  rw [hrc] at hA2
  have hcs : (c / 2 ^ 31 % 2 == 1) = false := by simp; omega
  unfold Format.add
  rw [e1, e2, hcs]
  have key : ∀ (s : Bool), (s = true → m = 0) → single.write (.number (if signed s m (i - min i j).toNat + signed false n (j - min i j).toNat = 0 then s && false else decide (signed s m (i - min i j).toNat + signed false n (j - min i j).toNat < 0)) (signed s m (i - min i j).toNat + signed false n (j - min i j).toNat).natAbs (min i j)) = R (A (rung a) + A c) := by
    intro s hs0
    have ht : signed s m (i - min i j).toNat + signed false n (j - min i j).toNat = ((m * 2 ^ (i - min i j).toNat + n * 2 ^ (j - min i j).toNat : Nat) : Int) := by
      rw [signed_eq, signed_eq]
      cases s
      · simp
      · rw [hs0 rfl]; simp
    rw [ht]
    generalize hT : m * 2 ^ (i - min i j).toNat + n * 2 ^ (j - min i j).toNat = T
    have hneg : (if (T : Int) = 0 then s && false else decide ((T : Int) < 0)) = false := by
      by_cases h : (T : Int) = 0
      · rw [if_pos h]; simp
      · rw [if_neg h]; simp
    rw [hneg]
    unfold Format.write
    simp only [Int.natAbs_natCast]
    rw [nearest_R _ _ _ (by omega)]
    have hv : T * 2 ^ (min i j + 176).toNat = A (rung a) + A c := by
      rw [← hT, ← hA1, ← hA2, Nat.add_mul, Nat.mul_assoc, Nat.mul_assoc, ← Nat.pow_add, ← Nat.pow_add]
      congr 3 <;> omega
    rw [hv]
    have hle : R (A (rung a) + A c) ≤ 1065353216 := by
      have := R_mono (x := A (rung a) + A c) (y := A 1065353216) (by rw [A_one]; exact hs)
      rwa [R_A] at this
    rw [Nat.min_eq_left (by omega)]
    rfl
  have hz : ((a / 2 ^ 31 % 2 == 1) = true → m = 0) := by
    intro hs1
    have : A (rung a) = 0 := by
      have hb : a = 2147483648 := by
        unfold good at ha; simp at ha hs1; omega
      subst hb; decide
    rw [this] at hA1
    rcases Nat.mul_eq_zero.1 hA1 with h | h
    · exact h
    · exact absurd h (Nat.pos_iff_ne_zero.1 (Nat.two_pow_pos _))
  have := key _ hz
  unfold Datum.sum
  simp only [Option.map_some]
  rw [this]

/-- The health behind a sample, on good bits. -/
def samp (b n : Nat) : Nat := R (A (R (7 * A (rung b) / 8)) + n * 2 ^ 172)

/-- A health that is none counts as 1. -/
def hp (b : Nat) : Nat := if good b = true then b else 1065353216

theorem hp_good (b : Nat) : good (hp b) = true := by
  unfold hp
  split
  · assumption
  · decide

/-- Halves between 0 and 2. -/
def clampN (x : Int) : Nat := if x ≤ 0 then 0 else if x = 1 then 1 else 2

theorem A_old {r : Nat} (h : r ≤ 1065353216) : A (R (7 * A r / 8)) ≤ 7 * 2 ^ 173 := by
  have h2 : 7 * A r / 8 ≤ 7 * 2 ^ 173 := by have := A_mono h; rw [A_one] at this; omega
  have h3 := A_mono (R_mono h2)
  rwa [A_R (by decide) (by decide)] at h3

theorem good_le {b : Nat} (h : b ≤ 1065353216) : good b = true := by unfold good; simp [h]

theorem rung_le {b : Nat} (h : b ≤ 1065353216) : rung b = b := by unfold rung; omega

theorem samp_le {b n : Nat} (h : good b = true) (hn : n ≤ 2) : samp b n ≤ 1065353216 := by
  have h1 := A_old (good_rung h)
  have := R_mono (x := A (R (7 * A (rung b) / 8)) + n * 2 ^ 172) (y := A 1065353216) (by rw [A_one]; omega)
  rwa [R_A] at this

theorem rung_word {s : Bool} {r : Nat} (h : r ≤ 1065353216) : rung (single.word s r) = r := by
  unfold Format.word rung; rw [sw]; cases s <;> simp <;> omega

theorem good_word {b r : Nat} (h : good b = true) (hr : r ≤ 1065353216) (hz : rung b = 0 → r = 0) : good (single.word (b / 2 ^ 31 % 2 == 1) r) = true := by
  unfold good at h; simp at h
  rcases h with h | rfl
  · rw [show (b / 2 ^ 31 % 2 == 1) = false from by simp; omega]
    exact good_le hr
  · rw [hz (by decide)]; decide

/-- The two steps of a sample. -/
theorem sample_steps {b n c : Nat} (h : good b = true) (hn : n ≤ 2) (hc : c ≤ 1065353216) (hA : A c = n * 2 ^ 172) :
    ∃ o, single.mul b 1063256064 = some o ∧ single.add o c = some (samp b n) := by
  have h1 := good_rung h
  have hle : R (7 * A (rung b) / 8) ≤ 1065353216 := by
    have := R_mono (x := 7 * A (rung b) / 8) (y := A 1065353216) (by have := A_mono h1; omega)
    rwa [R_A] at this
  refine ⟨_, mul_875 h, ?_⟩
  rw [add_small (good_word h hle (fun e => by rw [e]; decide)) hc]
  · rw [rung_word hle, hA]; rfl
  · rw [rung_word hle, hA]
    have := A_old h1
    omega

theorem sample_steps3 {b : Nat} (h : good b = true) :
    ∃ o, single.mul b 1063256064 = some o ∧ single.add o 0 = some (samp b 0) ∧ single.add o 1031798784 = some (samp b 1) ∧ single.add o 1040187392 = some (samp b 2) := by
  obtain ⟨o, h0, h1⟩ := sample_steps (n := 0) (c := 0) h (by decide) (by decide) (by decide)
  obtain ⟨o1, h2, h3⟩ := sample_steps (n := 1) (c := 1031798784) h (by decide) (by decide) (by decide)
  obtain ⟨o2, h4, h5⟩ := sample_steps (n := 2) (c := 1040187392) h (by decide) (by decide) (by decide)
  rw [h0] at h2 h4
  cases h2
  cases h4
  exact ⟨o, h0, h1, h3, h5⟩

theorem samp_mono {a b n m : Nat} (h : rung a ≤ rung b) (hn : n ≤ m) : samp a n ≤ samp b m := by
  apply R_mono
  have := A_mono (R_mono (x := 7 * A (rung a) / 8) (y := 7 * A (rung b) / 8) (by have := A_mono h; omega))
  have : n * 2 ^ 172 ≤ m * 2 ^ 172 := Nat.mul_le_mul_right _ hn
  omega

theorem samp_zero_le {b : Nat} : samp b 0 ≤ rung b := by
  have h : R (7 * A (rung b) / 8) ≤ rung b := by
    have := R_mono (x := 7 * A (rung b) / 8) (y := A (rung b)) (by omega)
    rwa [R_A] at this
  have := R_mono (A_mono h)
  rw [R_A (rung b)] at this
  unfold samp
  rwa [Nat.zero_mul, Nat.add_zero]

/-- A float less an eighth is a float, from an eighth on to 1. -/
theorem less_eighth {r : Nat} (hr : r ≤ 1065353216) (h : 2 ^ 173 ≤ A r) : ∃ v, A v = A r - 2 ^ 173 := by
  have hw : ¬ r < 2 ^ 23 := by
    intro hw
    have : A r = r * 2 ^ 27 := by unfold A; rw [if_pos hw]
    omega
  have hA : A r = (2 ^ 23 + r % 2 ^ 23) * 2 ^ (r / 2 ^ 23 - 1 + 27) := by
    unfold A; rw [if_neg hw, Nat.mul_assoc, ← Nat.pow_add]
  have hq : 124 ≤ r / 2 ^ 23 := by
    refine Nat.le_of_not_lt fun hlt => ?_
    have : A r < A (124 * 2 ^ 23) := A_lt (by omega)
    rw [show A (124 * 2 ^ 23) = 2 ^ 173 from by decide] at this
    omega
  have key : ∀ e d, r / 2 ^ 23 - 1 + 27 = 150 + e → 2 ^ 23 = d * 2 ^ e → d ≤ 2 ^ 23 → ∃ v, A v = A r - 2 ^ 173 := by
    intro e d he hd hd2
    refine ⟨R ((2 ^ 23 + r % 2 ^ 23 - d) * 2 ^ (150 + e)), ?_⟩
    rw [A_R (by omega) (by omega), hA, he, Nat.sub_mul]
    congr 1
    rw [Nat.pow_add, ← Nat.mul_assoc, Nat.mul_comm d, Nat.mul_assoc, ← hd]
  have h3 : r / 2 ^ 23 = 124 ∨ r / 2 ^ 23 = 125 ∨ r / 2 ^ 23 = 126 ∨ r / 2 ^ 23 = 127 := by omega
  rcases h3 with h3 | h3 | h3 | h3
  · exact key 0 (2 ^ 23) (by omega) (by omega) (by omega)
  · exact key 1 (2 ^ 22) (by omega) (by omega) (by omega)
  · exact key 2 (2 ^ 21) (by omega) (by omega) (by omega)
  · have : r = 1065353216 := by omega
    subst this
    exact ⟨1063256064, by decide⟩

theorem le_samp_two {b : Nat} (h : good b = true) : rung b ≤ samp b 2 := by
  have hr := good_rung h
  have hA1 := A_mono hr
  rw [A_one] at hA1
  have key : A (rung b) ≤ A (R (7 * A (rung b) / 8)) + 2 * 2 ^ 172 := by
    by_cases h8 : A (rung b) ≤ 2 ^ 173
    · omega
    · obtain ⟨v, hv⟩ := less_eighth hr (by omega)
      have := A_mono (R_mono (x := A v) (y := 7 * A (rung b) / 8) (by omega))
      rw [R_A] at this
      omega
  have := R_mono key
  rwa [R_A] at this

end Rnd
