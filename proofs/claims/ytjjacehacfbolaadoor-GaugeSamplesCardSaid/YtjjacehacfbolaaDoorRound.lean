/- Rounding of exact binary numbers to float32 words, as a function of whole numbers. -/
import Ieee.Arith
namespace Rnd

/-- n / 2^d to the nearest whole number, a half to the even side. -/
def rhe (n d : Nat) : Nat := n / 2 ^ d + (if 2 ^ d < 2 * (n % 2 ^ d) ∨ (2 ^ d = 2 * (n % 2 ^ d) ∧ (n / 2 ^ d) % 2 = 1) then 1 else 0)

theorem rhe_mono {a b : Nat} (d : Nat) (h : a ≤ b) : rhe a d ≤ rhe b d := by
  have hp : 0 < 2 ^ d := Nat.two_pow_pos d
  unfold rhe
  generalize 2 ^ d = p at *
  have h1 : a / p ≤ b / p := Nat.div_le_div_right h
  have ea := Nat.div_add_mod a p
  have eb := Nat.div_add_mod b p
  by_cases hq : a / p = b / p
  · rw [hq] at ea ⊢
    generalize p * (b / p) = t at *
    have : a % p ≤ b % p := by omega
    split <;> split <;> omega
  · split <;> split <;> omega

theorem rhe_exact (m d : Nat) : rhe (m * 2 ^ d) d = m := by
  have hp : 0 < 2 ^ d := Nat.two_pow_pos d
  unfold rhe
  rw [Nat.mul_div_cancel _ hp, Nat.mul_mod_left, if_neg (by omega)]; omega

theorem rhe_scale (n d k : Nat) : rhe (n * 2 ^ k) (d + k) = rhe n d := by
  have hp : 0 < 2 ^ k := Nat.two_pow_pos k
  unfold rhe
  rw [Nat.pow_add, Nat.mul_div_mul_right _ _ hp, Nat.mul_mod_mul_right]
  generalize 2 ^ k = p at *
  generalize 2 ^ d = q at *
  have e1 : (q * p < 2 * (n % q * p)) ↔ q < 2 * (n % q) := by
    rw [← Nat.mul_assoc]; exact Nat.mul_lt_mul_right hp
  have e2 : (q * p = 2 * (n % q * p)) ↔ q = 2 * (n % q) := by
    rw [← Nat.mul_assoc]; exact Nat.mul_right_cancel_iff hp
  simp only [e1, e2]

theorem rhe_le {n m d : Nat} (h : n ≤ m * 2 ^ d) : rhe n d ≤ m := by
  have := rhe_mono d h; rwa [rhe_exact] at this

theorem le_rhe {n m d : Nat} (h : m * 2 ^ d ≤ n) : m ≤ rhe n d := by
  have := rhe_mono d h; rwa [rhe_exact] at this

theorem rhe_small {n d : Nat} (h : 2 * n < 2 ^ d) : rhe n d = 0 := by
  unfold rhe
  rw [Nat.div_eq_of_lt (by omega), Nat.mod_eq_of_lt (by omega), if_neg (by omega)]

/-- The place of the last bit that is kept, in units of 2^-176 (27: that of the least float). -/
def dd (x : Nat) : Nat := max 27 (x.log2 - 23)

/-- The rung of the float32 next to x * 2^-176. -/
def R (x : Nat) : Nat := (dd x - 27) * 2 ^ 23 + rhe x (dd x)

/-- What a rung stands for, in units of 2^-176. -/
def A (w : Nat) : Nat := (if w < 2 ^ 23 then w else (2 ^ 23 + w % 2 ^ 23) * 2 ^ (w / 2 ^ 23 - 1)) * 2 ^ 27

theorem log2_mono {x y : Nat} (h : x ≤ y) : x.log2 ≤ y.log2 := by
  by_cases hx : x = 0
  · subst hx; simp
  · have hy : y ≠ 0 := by omega
    rw [Nat.le_log2 hy]
    exact Nat.le_trans (Nat.log2_self_le hx) h

theorem dd_mono {x y : Nat} (h : x ≤ y) : dd x ≤ dd y := by
  have := log2_mono h
  unfold dd; omega

theorem R_zero : R 0 = 0 := by decide

theorem R_mono {x y : Nat} (h : x ≤ y) : R x ≤ R y := by
  have hd := dd_mono h
  have h27 : 27 ≤ dd x := by unfold dd; omega
  by_cases he : dd x = dd y
  · unfold R; rw [he]; exact Nat.add_le_add_left (rhe_mono _ h) _
  · have hlt : dd x < dd y := by omega
    have hy0 : y ≠ 0 := by
      intro e; subst e; have : dd 0 = 27 := by decide
      omega
    have hly : dd y = y.log2 - 23 ∧ 50 < y.log2 := by unfold dd at *; omega
    have h1 : 2 ^ 23 ≤ rhe y (dd y) := by
      apply le_rhe
      rw [← Nat.pow_add]
      exact Nat.le_trans (Nat.pow_le_pow_right (by decide) (by omega)) (Nat.log2_self_le hy0)
    have h2 : rhe x (dd x) ≤ 2 ^ 24 := by
      apply rhe_le
      rw [← Nat.pow_add]
      by_cases hx : x = 0
      · subst hx; exact Nat.zero_le _
      · have hl : x < 2 ^ (x.log2 + 1) := Nat.lt_log2_self
        have : x.log2 + 1 ≤ 24 + dd x := by unfold dd; omega
        exact Nat.le_of_lt (Nat.lt_of_lt_of_le hl (Nat.pow_le_pow_right (by decide) this))
    unfold R
    generalize rhe x (dd x) = a at *
    generalize rhe y (dd y) = b at *
    generalize dd x = p at *
    generalize dd y = q at *
    omega

theorem log2_eq {x k : Nat} (h1 : 2 ^ k ≤ x) (h2 : x < 2 ^ (k + 1)) : x.log2 = k := by
  have hx : x ≠ 0 := by have := Nat.two_pow_pos k; omega
  have a := (Nat.le_log2 hx).2 h1
  have b := (Nat.log2_lt hx).2 h2
  omega

theorem log2_mul_pow {m : Nat} (k : Nat) (hm : m ≠ 0) : (m * 2 ^ k).log2 = m.log2 + k := by
  apply log2_eq
  · rw [Nat.pow_add]; exact Nat.mul_le_mul_right _ (Nat.log2_self_le hm)
  · rw [Nat.add_right_comm, Nat.pow_add]
    exact Nat.mul_lt_mul_of_pos_right Nat.lt_log2_self (Nat.two_pow_pos k)

theorem log2_lt_of {m k : Nat} (h : m < 2 ^ k) (hk : 0 < k) : m.log2 < k := by
  by_cases hm : m = 0
  · subst hm; simpa using hk
  · exact (Nat.log2_lt hm).2 h

theorem R_A (w : Nat) : R (A w) = w := by
  by_cases hw : w < 2 ^ 23
  · by_cases h0 : w = 0
    · subst h0; decide
    · have hl : (w * 2 ^ 27).log2 = w.log2 + 27 := log2_mul_pow 27 h0
      have hl2 := log2_lt_of hw (by decide)
      have hA : A w = w * 2 ^ 27 := by unfold A; rw [if_pos hw]
      have hd : dd (A w) = 27 := by rw [hA]; unfold dd; rw [hl]; omega
      unfold R; rw [hd, hA, rhe_exact]; omega
  · have hm0 : 2 ^ 23 + w % 2 ^ 23 ≠ 0 := by omega
    have hc : 1 ≤ w / 2 ^ 23 := by omega
    have hA : A w = (2 ^ 23 + w % 2 ^ 23) * 2 ^ (w / 2 ^ 23 - 1 + 27) := by
      unfold A; rw [if_neg hw, Nat.mul_assoc, ← Nat.pow_add]
    have hl : (2 ^ 23 + w % 2 ^ 23).log2 = 23 := log2_eq (by omega) (by omega)
    have hd : dd (A w) = w / 2 ^ 23 - 1 + 27 := by
      rw [hA]; unfold dd; rw [log2_mul_pow _ hm0, hl]; omega
    unfold R; rw [hd, hA, rhe_exact]; omega

theorem A_lt {w v : Nat} (h : w < v) : A w < A v := by
  refine Nat.lt_of_not_le fun hc => ?_
  have := R_mono hc
  rw [R_A, R_A] at this; omega

theorem A_mono {w v : Nat} (h : w ≤ v) : A w ≤ A v := by
  by_cases e : w = v
  · subst e; exact Nat.le_refl _
  · exact Nat.le_of_lt (A_lt (by omega))

theorem A_R {m d : Nat} (hm : m < 2 ^ 24) (hd : 27 ≤ d) : A (R (m * 2 ^ d)) = m * 2 ^ d := by
  by_cases h0 : m = 0
  · subst h0; rw [Nat.zero_mul]; decide
  · have hl : (m * 2 ^ d).log2 = m.log2 + d := log2_mul_pow d h0
    have hl2 : m.log2 < 24 := log2_lt_of hm (by decide)
    have hdd : dd (m * 2 ^ d) = max 27 (m.log2 + d - 23) := by unfold dd; rw [hl]
    have hle : dd (m * 2 ^ d) ≤ d := by omega
    obtain ⟨e, he⟩ : ∃ e, d = e + dd (m * 2 ^ d) := ⟨d - dd (m * 2 ^ d), by omega⟩
    have hM : m * 2 ^ d = (m * 2 ^ e) * 2 ^ (dd (m * 2 ^ d)) := by
      conv => lhs; rw [he]
      rw [Nat.pow_add, Nat.mul_assoc]
    have hr : rhe (m * 2 ^ d) (dd (m * 2 ^ d)) = m * 2 ^ e := by
      conv => lhs; arg 1; rw [hM]
      exact rhe_exact _ _
    have hlM : (m * 2 ^ e).log2 = m.log2 + e := log2_mul_pow e h0
    have hMlt : m * 2 ^ e < 2 ^ (m.log2 + e + 1) := by rw [← hlM]; exact Nat.lt_log2_self
    have hMle : 2 ^ (m.log2 + e) ≤ m * 2 ^ e := by
      rw [← hlM]; exact Nat.log2_self_le (Nat.mul_ne_zero h0 (Nat.pos_iff_ne_zero.1 (Nat.two_pow_pos e)))
    unfold R
    rw [hr]
    generalize hD : dd (m * 2 ^ d) = D at *
    generalize m * 2 ^ e = M at *
    rw [hM]
    by_cases h27 : D = 27
    · subst h27
      have : M < 2 ^ 24 := Nat.lt_of_lt_of_le hMlt (Nat.pow_le_pow_right (by decide) (by omega))
      unfold A
      rw [Nat.sub_self, Nat.zero_mul, Nat.zero_add]
      by_cases hs : M < 2 ^ 23
      · rw [if_pos hs]
      · rw [if_neg hs, show M / 2 ^ 23 - 1 = 0 from by omega, show 2 ^ 23 + M % 2 ^ 23 = M from by omega]; simp
    · have hle2 : m.log2 + e = 23 := by omega
      rw [hle2] at hMlt hMle
      have hMl : M < 2 ^ 24 := hMlt
      unfold A
      rw [if_neg (by omega), show ((D - 27) * 2 ^ 23 + M) / 2 ^ 23 - 1 = D - 27 from by omega, show 2 ^ 23 + ((D - 27) * 2 ^ 23 + M) % 2 ^ 23 = M from by omega, Nat.mul_assoc, ← Nat.pow_add, show D - 27 + 27 = D from by omega]

end Rnd
