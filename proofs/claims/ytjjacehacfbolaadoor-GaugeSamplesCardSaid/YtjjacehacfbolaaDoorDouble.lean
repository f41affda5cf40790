/- A good health as a double, by 1000, cut to a whole number: exact on the way. -/
import Derived.Test.YtjjacehacfbolaaDoorNum
import Derived.Laws.FloatArith
namespace Rnd
open Ieee

theorem dl : Format.leastPlace double = -1074 := by decide
theorem db : Format.binade double = 2 ^ 52 := by decide
theorem di : Format.infRung double = 2047 * 2 ^ 52 := by decide
theorem dw : Format.signWeight double = 2 ^ 63 := by decide

theorem dexact {m : Nat} {p : Int} (h0 : m ≠ 0) (hm : m < 2 ^ 53) (hlo : -1074 ≤ p + m.log2 - 52) (hhi : p + m.log2 ≤ 900) :
    double.read (double.nearest false m p) = .number false (m * 2 ^ (52 - m.log2)) (p + m.log2 - 52) := by
  have hl : m.log2 < 53 := (Nat.log2_lt h0).2 hm
  have hk1 : m < 2 ^ (m.log2 + 1) := Nat.lt_log2_self
  have hk2 : 2 ^ m.log2 ≤ m := Nat.log2_self_le h0
  have hK1 : m * 2 ^ (52 - m.log2) < 2 ^ 53 := by
    have : m * 2 ^ (52 - m.log2) < 2 ^ (m.log2 + 1) * 2 ^ (52 - m.log2) := Nat.mul_lt_mul_of_pos_right hk1 (Nat.two_pow_pos _)
    rwa [← Nat.pow_add, show m.log2 + 1 + (52 - m.log2) = 53 from by omega] at this
  have hK2 : 2 ^ 52 ≤ m * 2 ^ (52 - m.log2) := by
    have : 2 ^ m.log2 * 2 ^ (52 - m.log2) ≤ m * 2 ^ (52 - m.log2) := Nat.mul_le_mul_right _ hk2
    rwa [← Nat.pow_add, show m.log2 + (52 - m.log2) = 52 from by omega] at this
  have hn : double.nearest false m p = ((p + m.log2 - 52) + 1074).toNat * 2 ^ 52 + m * 2 ^ (52 - m.log2) := by
    unfold Format.nearest
    rw [if_neg h0]
    have hlast : max (p + (m.log2 : Int) - (double.fractionBits : Nat)) double.leastPlace = p + m.log2 - 52 := by
      rw [dl]
      show max (p + (m.log2 : Int) - (52 : Nat)) (-1074) = _
      omega
    simp only [hlast]
    rw [show (p - (p + (m.log2 : Int) - 52)).toNat = 52 - m.log2 from by omega, show (p + (m.log2 : Int) - 52 - p).toNat = 0 from by omega, dl, db, di]
    rw [cut_even _ 0 0, Nat.shiftLeft_eq, Nat.pow_zero, Nat.mul_one, show (0 : Nat) + 0 = 0 from rfl]
    have hr : rhe (m * 2 ^ (52 - m.log2)) 0 = m * 2 ^ (52 - m.log2) := by
      have := rhe_exact (m * 2 ^ (52 - m.log2)) 0
      rwa [Nat.pow_zero, Nat.mul_one] at this
    rw [hr]
    have hx : (p + (m.log2 : Int) - 52 - -1074).toNat = (p + (m.log2 : Int) - 52 + 1074).toNat := by omega
    rw [hx, Nat.min_eq_left (by
      have : (p + (m.log2 : Int) - 52 + 1074).toNat ≤ 1922 := by omega
      generalize m * 2 ^ (52 - m.log2) = K at *
      omega)]
    rfl
  rw [hn]
  generalize hK : m * 2 ^ (52 - m.log2) = K at *
  obtain ⟨c, hc⟩ : ∃ c : Nat, p + (m.log2 : Int) - 52 = (c : Int) - 1074 := ⟨(p + (m.log2 : Int) - 52 + 1074).toNat, by omega⟩
  rw [hc, show ((c : Int) - 1074 + 1074).toNat = c from by omega]
  have hc2 : c ≤ 1922 := by omega
  unfold Format.read
  rw [dw, db, di, dl]
  have e1 : ((c * 2 ^ 52 + K) / 2 ^ 63 % 2 == 1) = false := by
    have : (c * 2 ^ 52 + K) / 2 ^ 63 = 0 := by omega
    simp [this]
  have e2 : (c * 2 ^ 52 + K) % 2 ^ 63 = c * 2 ^ 52 + K := by omega
  simp only [e2]
  rw [if_neg (by omega), if_pos (by omega)]
  have e3 : 2 ^ 52 + (c * 2 ^ 52 + K) % 2 ^ 52 = K := by omega
  have e4 : (-1074 : Int) + (((c * 2 ^ 52 + K) / 2 ^ 52 - 1 : Nat) : Int) = (c : Int) - 1074 := by omega
  rw [e3, e4]
  rw [e1]

theorem dscale {m t : Nat} {p : Int} (h0 : m ≠ 0) : double.nearest false (m * 2 ^ t) (p - t) = double.nearest false m p := by
  have h1 : m * 2 ^ t ≠ 0 := Nat.mul_ne_zero h0 (Nat.pos_iff_ne_zero.1 (Nat.two_pow_pos t))
  have hl : (m * 2 ^ t).log2 = m.log2 + t := log2_mul_pow t h0
  unfold Format.nearest
  rw [if_neg h0, if_neg h1, hl]
  have hlast : p - (t : Int) + ((m.log2 + t : Nat) : Int) = p + m.log2 := by omega
  rw [hlast]
  generalize max (p + (m.log2 : Int) - (double.fractionBits : Nat)) double.leastPlace = L
  simp only
  have hcut : Toward.even.cut false ((m * 2 ^ t) <<< (p - t - L).toNat) (L - (p - t)).toNat = Toward.even.cut false (m <<< (p - L).toNat) (L - p).toNat := by
    rw [Nat.shiftLeft_eq, Nat.shiftLeft_eq, cut_even (m * 2 ^ t * 2 ^ (p - t - L).toNat) (p - L).toNat, cut_even (m * 2 ^ (p - L).toNat) (t + (p - t - L).toNat)]
    have e1 : m * 2 ^ t * 2 ^ (p - t - L).toNat * 2 ^ (p - L).toNat = m * 2 ^ (t + (p - t - L).toNat + (p - L).toNat) := by
      rw [Nat.pow_add, Nat.pow_add, Nat.mul_assoc, Nat.mul_assoc, Nat.mul_assoc]
    have e2 : m * 2 ^ (p - L).toNat * 2 ^ (t + (p - t - L).toNat) = m * 2 ^ ((p - L).toNat + (t + (p - t - L).toNat)) := by
      rw [Nat.pow_add 2 (p - L).toNat, Nat.mul_assoc]
    rw [e1, e2, show t + (p - t - L).toNat + (p - L).toNat = (p - L).toNat + (t + (p - t - L).toNat) from by omega, show (L - (p - t)).toNat + (p - L).toNat = (L - p).toNat + (t + (p - t - L).toNat) from by omega]
  rw [hcut]

theorem thousand : double.read 4652007308841189376 = .number false (1000 * 2 ^ 43) (-43) := by decide

/-- Thousandths, rounded down. -/
def T (b : Nat) : Nat := A (rung b) * 1000 / 2 ^ 176

theorem T_le {b : Nat} (h : good b = true) : T b ≤ 1000 := by
  have := A_mono (good_rung h)
  rw [A_one] at this
  unfold T; omega

theorem cut_zero (mag drop : Nat) : Toward.zero.cut false mag drop = mag / 2 ^ drop := by
  unfold Toward.cut
  simp only [Nat.shiftLeft_eq, Nat.one_mul, Bool.toNat_false, Nat.add_zero]
  by_cases h : drop ≤ mag.log2 + 2
  · rw [Nat.min_eq_left h]
  · rw [Nat.min_eq_right (by omega)]
    have h1 : mag < 2 ^ (mag.log2 + 1) := Nat.lt_log2_self
    have h2 : 2 ^ (mag.log2 + 1) ≤ 2 ^ (mag.log2 + 2) := Nat.pow_le_pow_right (by decide) (by omega)
    have h3 : 2 ^ (mag.log2 + 1) ≤ 2 ^ drop := Nat.pow_le_pow_right (by decide) (by omega)
    rw [Nat.div_eq_of_lt (by omega), Nat.div_eq_of_lt (by omega)]

end Rnd
namespace Go
open Rnd Ieee

/-- The three steps of Text. -/
theorem text_steps {b : Nat} (h : good b = true) : ∃ r q : Nat, floatToFloatBits .f32 b .f64 = some r ∧ floatBits .mul .f64 r 4652007308841189376 = some q ∧ floatToIntVal .f64 q .i64 = some (T b : Int) := by
  by_cases hz : rung b = 0
  · have hb : b = 0 ∨ b = 2147483648 := by
      unfold good at h; simp at h; unfold rung at hz; omega
    rcases hb with rfl | rfl
    · exact ⟨0, 0, by decide, by decide, by decide⟩
    · exact ⟨9223372036854775808, 9223372036854775808, by decide, by decide, by decide⟩
  · have hr := good_rung h
    have hb : b ≤ 1065353216 := by unfold good at h; simp at h; unfold rung at hz; omega
    have hrb : rung b = b := rung_le hb
    obtain ⟨m, p, e, hp, hA⟩ := read_fin (b := b) (by omega)
    have hs : (b / 2 ^ 31 % 2 == 1) = false := by simp; omega
    rw [hs] at e
    have hm24 : m < 2 ^ 24 ∧ p ≤ -23 ∧ m ≠ 0 := by
      have hread : single.read b = .number false m p := e
      unfold Format.read at hread
      rw [sw, sb, si, sl] at hread
      have hrr : b % 2 ^ 31 = b := by omega
      rw [hrr] at hread
      rw [hrb] at hz hA
      by_cases h1 : b < 2 ^ 23
      · simp only [if_pos h1] at hread
        injection hread with _ h2 h3
        subst h2; subst h3
        exact ⟨by omega, by omega, by omega⟩
      · simp only [if_neg h1, if_pos (show b < 2139095040 by omega)] at hread
        injection hread with _ h2 h3
        subst h2; subst h3
        exact ⟨by omega, by omega, by omega⟩
    obtain ⟨hm, hp2, h0⟩ := hm24
    have hl : m.log2 < 24 := (Nat.log2_lt h0).2 hm
    have h1000 : m * 1000 ≠ 0 := by omega
    have hM : m * 1000 < 2 ^ 34 := by omega
    have hlM : (m * 1000).log2 < 34 := (Nat.log2_lt h1000).2 hM
    have d1 := dexact (m := m) (p := p) h0 (by omega) (by omega) (by omega)
    have d2 := dexact (m := m * 1000) (p := p) h1000 (by omega) (by omega) (by omega)
    refine ⟨double.nearest false m p, double.nearest false (m * 1000) p, ?_, ?_, ?_⟩
    · unfold floatToFloatBits
      rw [if_neg (by decide)]
      have e1 : FloatKind.decode .f32 b = .number false m p := e
      rw [e1]
      show (if (FloatKind.decode .f64 (FloatKind.encode .f64 (.number false m p))).isInfinity = true then none else some (FloatKind.encode .f64 (.number false m p))) = some (double.nearest false m p)
      have e2 : FloatKind.encode .f64 (.number false m p) = double.nearest false m p := rfl
      rw [e2]
      have e3 : FloatKind.decode .f64 (double.nearest false m p) = .number false (m * 2 ^ (52 - m.log2)) (p + m.log2 - 52) := d1
      rw [e3, if_neg (by simp [Datum.isInfinity])]
    · show double.mul (double.nearest false m p) 4652007308841189376 = some _
      unfold Format.mul
      rw [d1, thousand]
      unfold Datum.product
      simp only [Option.map_some, Bool.xor_false]
      unfold Format.write
      simp only [Option.some.injEq]
      have := dscale (m := m * 1000) (t := 52 - m.log2 + 43) (p := p) h1000
      rw [← this]
      have e1 : m * 2 ^ (52 - m.log2) * (1000 * 2 ^ 43) = m * 1000 * 2 ^ (52 - m.log2 + 43) := by
        rw [Nat.pow_add]; exact Nat.mul_mul_mul_comm _ _ _ _
      have e2 : p + (m.log2 : Int) - 52 + -43 = p - ((52 - m.log2 + 43 : Nat) : Int) := by omega
      rw [e1, e2]
    · unfold floatToIntVal
      have e1 : FloatKind.decode .f64 (double.nearest false (m * 1000) p) = .number false (m * 1000 * 2 ^ (52 - (m * 1000).log2)) (p + (m * 1000).log2 - 52) := d2
      rw [e1]
      unfold Datum.toInt Datum.integral
      simp only
      rw [cut_zero, signed_eq]
      have hT : ((m * 1000 * 2 ^ (52 - (m * 1000).log2)) <<< (p + ((m * 1000).log2 : Int) - 52).toNat) / 2 ^ (-(p + ((m * 1000).log2 : Int) - 52)).toNat = T b := by
        rw [show (p + ((m * 1000).log2 : Int) - 52).toNat = 0 from by omega, Nat.shiftLeft_eq, Nat.pow_zero, Nat.mul_one]
        obtain ⟨k, hk⟩ : ∃ k : Nat, p = -(k : Int) := ⟨(-p).toNat, by omega⟩
        rw [show (-(p + ((m * 1000).log2 : Int) - 52)).toNat = k + (52 - (m * 1000).log2) from by omega, Nat.pow_add, Nat.mul_div_mul_right _ _ (Nat.two_pow_pos _)]
        unfold T
        rw [← hA, show (p + 176).toNat = 176 - k from by omega]
        have h176 : (2 : Nat) ^ 176 = 2 ^ k * 2 ^ (176 - k) := by rw [← Nat.pow_add]; congr 1; omega
        rw [h176, Nat.mul_right_comm m, Nat.mul_div_mul_right _ _ (Nat.two_pow_pos _)]
      rw [hT]
      have := T_le h
      simp only [Bool.false_eq_true, if_false, Nat.pow_zero, Nat.mul_one]
      rw [if_pos]
      constructor
      · show (-9223372036854775808 : Int) ≤ _
        omega
      · show _ ≤ (9223372036854775807 : Int)
        omega
end Go
