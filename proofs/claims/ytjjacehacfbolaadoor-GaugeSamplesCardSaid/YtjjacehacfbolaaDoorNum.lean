/- The document's numbers m x 2^e against R and A: plain arithmetic, no program. -/
import Derived.Test.YtjjacehacfbolaaDoorFloat
namespace Rnd

/-- m x 2^e in units of 2^-176. -/
def X (m : Nat) (e : Int) : Nat := m * 2 ^ (e + 176).toNat

theorem X_le_log {m : Nat} {e : Int} (he : -176 ≤ e) (h0 : m ≠ 0) (hX : X m e ≤ 2 ^ 176) : (m.log2 : Int) + e ≤ 0 := by
  have h1 : 2 ^ (m.log2 + (e + 176).toNat) ≤ 2 ^ 176 := by
    refine Nat.le_trans ?_ hX
    unfold X
    rw [Nat.pow_add]
    exact Nat.mul_le_mul_right _ (Nat.log2_self_le h0)
  have := (Nat.pow_le_pow_iff_right (by decide : 1 < 2)).1 h1
  omega

/-- What pack answers at its end. -/
theorem pack_end {m : Nat} {e : Int} (hm : m ≤ 16777216) (he : -149 ≤ e) (h : 8388608 ≤ m ∨ e = -149) :
    R (X m e) = if m = 16777216 then (e + 151).toNat * 8388608 else if m < 8388608 then m else (e + 150).toNat * 8388608 + (m - 8388608) := by
  obtain ⟨k, hk⟩ : ∃ k : Nat, e = (k : Int) - 149 := ⟨(e + 149).toNat, by omega⟩
  subst hk
  unfold X
  rw [show ((k : Int) - 149 + 176).toNat = k + 27 from by omega]
  by_cases h1 : m = 16777216
  · subst h1
    rw [if_pos rfl, show (16777216 : Nat) * 2 ^ (k + 27) = 8388608 * 2 ^ (k + 1 + 27) from by rw [show 2 ^ (k + 1 + 27) = 2 * 2 ^ (k + 27) from by rw [Nat.mul_comm, ← Nat.pow_succ, show k + 27 + 1 = k + 1 + 27 from by omega], ← Nat.mul_assoc]]
    have : A ((k + 2) * 2 ^ 23) = 8388608 * 2 ^ (k + 1 + 27) := by
      unfold A
      rw [if_neg (by omega), show (k + 2) * 2 ^ 23 % 2 ^ 23 = 0 from by omega, show (k + 2) * 2 ^ 23 / 2 ^ 23 - 1 = k + 1 from by omega, Nat.mul_assoc, ← Nat.pow_add]
    rw [← this, R_A]; omega
  · rw [if_neg h1]
    by_cases h2 : m < 8388608
    · rw [if_pos h2]
      have hk : k = 0 := by omega
      subst hk
      have : A m = m * 2 ^ (0 + 27) := by unfold A; rw [if_pos h2]
      rw [← this, R_A]
    · rw [if_neg h2]
      have : A ((k + 1) * 2 ^ 23 + (m - 8388608)) = m * 2 ^ (k + 27) := by
        unfold A
        rw [if_neg (by omega), show 2 ^ 23 + ((k + 1) * 2 ^ 23 + (m - 8388608)) % 2 ^ 23 = m from by omega, show ((k + 1) * 2 ^ 23 + (m - 8388608)) / 2 ^ 23 - 1 = k from by omega, Nat.mul_assoc, ← Nat.pow_add]
      rw [← this, R_A]; omega

theorem X_double {m : Nat} {e : Int} (he : -175 ≤ e) : X (2 * m) (e - 1) = X m e := by
  obtain ⟨k, hk⟩ : ∃ k : Nat, e = (k : Int) - 175 := ⟨(e + 175).toNat, by omega⟩
  subst hk
  unfold X
  rw [show ((k : Int) - 175 - 1 + 176).toNat = k from by omega, show ((k : Int) - 175 + 176).toNat = k + 1 from by omega, Nat.pow_succ, Nat.mul_comm 2 m, Nat.mul_assoc, Nat.mul_comm 2]

/-- How many bits cut takes off. -/
def cutN (m : Nat) (e : Int) : Nat := max (m.log2 - 23) (-149 - e).toNat

theorem cutN_test {m k : Nat} {e : Int} : (16777216 ≤ m / 2 ^ k ∨ e + k < -149) ↔ k < cutN m e := by
  unfold cutN
  have h1 : 16777216 ≤ m / 2 ^ k ↔ k < m.log2 - 23 := by
    rw [Nat.le_div_iff_mul_le (Nat.two_pow_pos k), show (16777216 : Nat) = 2 ^ 24 from rfl, ← Nat.pow_add]
    by_cases h0 : m = 0
    · subst h0
      have : 0 < 2 ^ (24 + k) := Nat.two_pow_pos _
      simp
    · rw [← Nat.le_log2 h0]; omega
  rw [h1]; omega

theorem cutN_dd {m : Nat} {e : Int} (he : -176 ≤ e) (hc : 16777216 ≤ m ∨ e < -149) (h0 : m ≠ 0) : dd (X m e) = cutN m e + (e + 176).toNat := by
  unfold dd X cutN
  rw [log2_mul_pow _ h0]
  have hl : 16777216 ≤ m → 24 ≤ m.log2 := fun h => (Nat.le_log2 h0).2 h
  have hl2 : ¬ 16777216 ≤ m → m.log2 < 24 := fun h => (Nat.log2_lt h0).2 (by omega)
  by_cases h24 : 16777216 ≤ m
  · have := hl h24; omega
  · have := hl2 h24; omega

/-- m / 2^n, a half to the even side, as cut has it. -/
theorem cut_rhe {m : Nat} {e : Int} (he : -176 ≤ e) (hc : 16777216 ≤ m ∨ e < -149) (h0 : m ≠ 0) : rhe m (cutN m e) = rhe (X m e) (dd (X m e)) := by
  rw [cutN_dd he hc h0]
  unfold X
  rw [rhe_scale]

theorem cut_fits {m : Nat} {e : Int} (he : -176 ≤ e) (hc : 16777216 ≤ m ∨ e < -149) (h0 : m ≠ 0) :
    rhe m (cutN m e) ≤ 16777216 ∧ -149 ≤ e + cutN m e ∧ (8388608 ≤ rhe m (cutN m e) ∨ e + cutN m e = -149) := by
  have hl : m < 2 ^ (m.log2 + 1) := Nat.lt_log2_self
  have hlow := Nat.log2_self_le h0
  refine ⟨?_, ?_, ?_⟩
  · apply rhe_le
    refine Nat.le_trans (Nat.le_of_lt hl) ?_
    rw [show (16777216 : Nat) = 2 ^ 24 from rfl, ← Nat.pow_add]
    exact Nat.pow_le_pow_right (by decide) (by unfold cutN; omega)
  · unfold cutN; omega
  · by_cases h : (-149 - e).toNat ≤ m.log2 - 23 ∧ 24 ≤ m.log2
    · left
      apply le_rhe
      refine Nat.le_trans ?_ hlow
      rw [show (8388608 : Nat) = 2 ^ 23 from rfl, ← Nat.pow_add]
      exact Nat.pow_le_pow_right (by decide) (by unfold cutN; omega)
    · right
      have hl2 : ¬ 16777216 ≤ m → m.log2 < 24 := fun h => (Nat.log2_lt h0).2 (by omega)
      have hl3 : 16777216 ≤ m → 24 ≤ m.log2 := fun h => (Nat.le_log2 h0).2 h
      unfold cutN
      by_cases h24 : 16777216 ≤ m
      · have := hl3 h24; omega
      · have := hl2 h24; omega

/-- Cut's number, packed, is R. -/
theorem cut_R {m : Nat} {e : Int} (he : -176 ≤ e) (hc : 16777216 ≤ m ∨ e < -149) (h0 : m ≠ 0) : R (X (rhe m (cutN m e)) (e + cutN m e)) = R (X m e) := by
  have hf := cut_fits he hc h0
  rw [pack_end hf.1 hf.2.1 hf.2.2]
  conv => rhs; unfold R
  rw [← cut_rhe he hc h0, cutN_dd he hc h0]
  generalize rhe m (cutN m e) = q at *
  generalize cutN m e = n at *
  split
  · subst_vars; omega
  · split
    · omega
    · omega

theorem cut_X {m : Nat} {e : Int} (he : -176 ≤ e) (hc : 16777216 ≤ m ∨ e < -149) (h0 : m ≠ 0) (hX : X m e ≤ 2 ^ 176) : X (rhe m (cutN m e)) (e + cutN m e) ≤ 2 ^ 176 := by
  have hf := cut_fits he hc h0
  have e1 := cut_R he hc h0
  have e2 : A (R (X (rhe m (cutN m e)) (e + cutN m e))) = X (rhe m (cutN m e)) (e + cutN m e) := by
    generalize rhe m (cutN m e) = q at *
    generalize e + (cutN m e : Int) = f at *
    by_cases hq : q = 16777216
    · subst hq
      have : X 16777216 f = X 8388608 (f + 1) := by
        have := X_double (m := 8388608) (e := f + 1) (by omega)
        rwa [show f + 1 - 1 = f from by omega] at this
      rw [this]
      exact A_R (by decide) (by omega)
    · exact A_R (by omega) (by omega)
  rw [← e2, e1, ← A_one]
  refine A_mono ?_
  have := R_mono hX
  rwa [← A_one, R_A] at this

/-- The step of cut: a half to the even side. -/
theorem rhe_half {m k : Nat} (hk : 1 ≤ k) : rhe m k = m / 2 ^ k + if 2 ^ (k - 1) < m % 2 ^ k ∨ (m % 2 ^ k = 2 ^ (k - 1) ∧ m / 2 ^ k % 2 = 1) then 1 else 0 := by
  have h2 : 2 ^ k = 2 * 2 ^ (k - 1) := by
    obtain ⟨j, rfl⟩ : ∃ j, k = j + 1 := ⟨k - 1, by omega⟩
    rw [Nat.add_sub_cancel, Nat.pow_succ, Nat.mul_comm]
  unfold rhe
  congr 1
  have : (2 ^ k < 2 * (m % 2 ^ k) ∨ (2 ^ k = 2 * (m % 2 ^ k) ∧ m / 2 ^ k % 2 = 1)) ↔ (2 ^ (k - 1) < m % 2 ^ k ∨ (m % 2 ^ k = 2 ^ (k - 1) ∧ m / 2 ^ k % 2 = 1)) := by
    generalize m % 2 ^ k = l at *
    generalize m / 2 ^ k = q at *
    omega
  simp only [this]

theorem cutN_pos {m : Nat} {e : Int} (hc : 16777216 ≤ m ∨ e < -149) (h0 : m ≠ 0) : 1 ≤ cutN m e := by
  unfold cutN
  rcases hc with h | h
  · have : 24 ≤ m.log2 := (Nat.le_log2 h0).2 h
    omega
  · omega
theorem cutN_le {m : Nat} {e : Int} (he : -176 ≤ e) (hm : m < 2 ^ 63) (h0 : m ≠ 0) : cutN m e ≤ 39 := by
  have : m.log2 < 63 := (Nat.log2_lt h0).2 hm
  unfold cutN; omega

/-- All that the walk of cut asks, 0 too. -/
theorem cut_facts {m : Nat} {e : Int} (hm : m < 2 ^ 63) (he : -176 ≤ e) (hc : 16777216 ≤ m ∨ e < -149) (hX : X m e ≤ 2 ^ 176) :
    e ≤ 0 ∧ cutN m e ≤ 39 ∧ 1 ≤ cutN m e ∧ rhe m (cutN m e) ≤ 16777216 ∧ -149 ≤ e + (cutN m e : Int) ∧ X (rhe m (cutN m e)) (e + cutN m e) ≤ 2 ^ 176 ∧ R (X (rhe m (cutN m e)) (e + cutN m e)) = R (X m e) := by
  by_cases h0 : m = 0
  · subst h0
    have hr : ∀ k, rhe 0 k = 0 := fun k => by
      have := rhe_le (n := 0) (m := 0) (d := k) (by omega)
      omega
    have hx : ∀ f, X 0 f = 0 := fun f => by unfold X; omega
    have he2 : e < -149 := by omega
    have hl : Nat.log2 0 = 0 := by decide
    rw [hr, hx, hx]
    unfold cutN
    rw [hl]
    refine ⟨by omega, by omega, by omega, by omega, by omega, by decide, rfl⟩
  · have := cut_fits he hc h0
    have h1 := X_le_log he h0 hX
    exact ⟨by omega, cutN_le he hm h0, cutN_pos hc h0, this.1, this.2.1, cut_X he hc h0 hX, cut_R he hc h0⟩

/-- A small rest behind h x 2^-4 does not count. -/
theorem R_far {h y : Nat} (hh : 1 ≤ h) (hh2 : h ≤ 2) (hy : y < 2 ^ 148) : R (h * 2 ^ 172 + y) = R (h * 2 ^ 172) := by
  have key : ∀ h' l, h' * 2 ^ 172 = 2 ^ l → 172 ≤ l → R (h' * 2 ^ 172 + y) = R (h' * 2 ^ 172) := by
    intro h' l e hl
    rw [e]
    have e1 : (2 ^ l + y).log2 = l := log2_eq (by omega) (by
      have : 2 ^ 148 ≤ 2 ^ l := Nat.pow_le_pow_right (by decide) (by omega)
      rw [Nat.pow_succ]; omega)
    have e2 : (2 ^ l).log2 = l := log2_eq (Nat.le_refl _) (by rw [Nat.pow_succ]; have := Nat.two_pow_pos l; omega)
    have d1 : dd (2 ^ l + y) = l - 23 := by unfold dd; rw [e1]; omega
    have d2 : dd (2 ^ l) = l - 23 := by unfold dd; rw [e2]; omega
    unfold R
    rw [d1, d2]
    congr 1
    have hsplit : 2 ^ l = 2 ^ 23 * 2 ^ (l - 23) := by rw [← Nat.pow_add]; congr 1; omega
    have hbig : 2 * y < 2 ^ (l - 23) := by
      have : 2 ^ 149 ≤ 2 ^ (l - 23) := Nat.pow_le_pow_right (by decide) (by omega)
      omega
    rw [hsplit, rhe_exact]
    have hp : 0 < 2 ^ (l - 23) := Nat.two_pow_pos _
    unfold rhe
    generalize 2 ^ (l - 23) = p at *
    have q1 : (2 ^ 23 * p + y) / p = 2 ^ 23 := by
      rw [Nat.mul_comm, Nat.mul_add_div hp, Nat.div_eq_of_lt (by omega)]
    have q2 : (2 ^ 23 * p + y) % p = y := by
      rw [Nat.mul_comm, Nat.mul_add_mod, Nat.mod_eq_of_lt (by omega)]
    rw [q1, q2, if_neg (by omega)]
  have : h = 1 ∨ h = 2 := by omega
  rcases this with rfl | rfl
  · exact key 1 172 (by decide) (by decide)
  · exact key 2 173 (by decide) (by decide)
end Rnd
