/- What is written is read; cut anywhere, it is too short: plain laws. -/
import Derived.Test.YtnodjcapclkmhaaDoorForm
namespace Go.Proofs.YtnodjcapclkmhaaDoor
open Go.RowKit

/-- The bytes xs stand at p. -/
def Pre (s : ByteArray) (p : Nat) (xs : List Int) : Prop := p + xs.length ≤ s.size ∧ rng s p xs.length = xs
/-- The text ends within xs, which stand at p as far as it goes. -/
def Cut (s : ByteArray) (p : Nat) (xs : List Int) : Prop := p ≤ s.size ∧ s.size < p + xs.length ∧ rng s p (s.size - p) = xs.take (s.size - p)

theorem Pre.cons {s : ByteArray} {p : Nat} {x : Int} {xs : List Int} (h : Pre s p (x :: xs)) : p < s.size ∧ (byt s p : Int) = x ∧ Pre s (p + 1) xs := by
  obtain ⟨h1, h2⟩ := h
  rw [List.length_cons] at h1 h2
  unfold rng at h2
  obtain ⟨h3, h4⟩ := List.cons.inj h2
  exact ⟨by omega, h3, by omega, h4⟩
theorem Cut.cons {s : ByteArray} {p : Nat} {x : Int} {xs : List Int} (h : Cut s p (x :: xs)) : s.size = p ∨ (p < s.size ∧ (byt s p : Int) = x ∧ Cut s (p + 1) xs) := by
  obtain ⟨h0, h1, h2⟩ := h
  rw [List.length_cons] at h1
  rcases Nat.eq_or_lt_of_le h0 with h | h
  · exact .inl h.symm
  · right
    rw [show s.size - p = (s.size - (p + 1)) + 1 by omega, List.take_succ_cons] at h2
    unfold rng at h2
    obtain ⟨h3, h4⟩ := List.cons.inj h2
    exact ⟨h, h3, by omega, by omega, h4⟩
theorem Pre.app {s : ByteArray} {p : Nat} {a b : List Int} (h : Pre s p (a ++ b)) : Pre s p a ∧ Pre s (p + a.length) b := by
  obtain ⟨h1, h2⟩ := h
  rw [List.length_append] at h1 h2
  rw [rng_add] at h2
  obtain ⟨h3, h4⟩ := List.append_inj h2 (rng_length s _ _)
  exact ⟨⟨by omega, h3⟩, by omega, h4⟩
theorem Cut.app {s : ByteArray} {p : Nat} {a b : List Int} (h : Cut s p (a ++ b)) : Cut s p a ∨ (Pre s p a ∧ Cut s (p + a.length) b) := by
  obtain ⟨h0, h1, h2⟩ := h
  rw [List.length_append] at h1
  rcases Nat.lt_or_ge s.size (p + a.length) with h | h
  · left
    refine ⟨h0, h, ?_⟩
    rw [h2, List.take_append_of_le_length (by omega)]
  · right
    rw [show s.size - p = a.length + (s.size - (p + a.length)) by omega, rng_add, List.take_length_add_append] at h2
    obtain ⟨h3, h4⟩ := List.append_inj h2 (rng_length s _ _)
    exact ⟨⟨h, h3⟩, h, by omega, h4⟩

theorem uG_pre {s : ByteArray} {p : Nat} : ∀ (l z i x : Nat), (uvL z).length = l → Pre s (p + i) (uvL z) → x + z * 2 ^ (7 * i) < 18446744073709551616 → (0 < i → z ≠ 0) → uG s p i x = .ok (x + z * 2 ^ (7 * i), p + i + (uvL z).length) := by
  intro l
  induction l with
  | zero => intro z i x hl; have := uvL_pos z; omega
  | succ l ih =>
    intro z i x hl hp hx hz
    have hi9 : i = 9 → z ≤ 1 := by
      intro e
      subst e
      have : z * 9223372036854775808 < 18446744073709551616 := by
        have e : (2 : Nat) ^ (7 * 9) = 9223372036854775808 := rfl
        rw [e] at hx; omega
      omega
    by_cases h : z < 128
    · rw [uvL_last h] at hp ⊢
      obtain ⟨h1, h2, _⟩ := hp.cons
      have hb : byt s (p + i) = z := by omega
      rw [uG_at s p i x h1, hb, if_neg (fun e => by have := hi9 e.1; omega), if_pos h, if_neg (fun e => hz e.2 e.1), Nat.mod_eq_of_lt h]
      rfl
    · rw [uvL_more (by omega)] at hp hl ⊢
      obtain ⟨h1, h2, h3⟩ := hp.cons
      have hb : byt s (p + i) = z % 128 + 128 := by omega
      rw [List.length_cons] at hl ⊢
      have e1 : x + (z % 128 + 128) % 128 * 2 ^ (7 * i) + z / 128 * 2 ^ (7 * (i + 1)) = x + z * 2 ^ (7 * i) := by
        rw [show 7 * (i + 1) = 7 * i + 7 by omega, Nat.pow_add, show (2 : Nat) ^ 7 = 128 from rfl, show (z % 128 + 128) % 128 = z % 128 by omega]
        generalize 2 ^ (7 * i) = P
        have e2 : z = z % 128 + 128 * (z / 128) := by omega
        conv => rhs; rw [e2, Nat.add_mul]
        rw [Nat.add_assoc, Nat.mul_comm P 128, ← Nat.mul_assoc, Nat.mul_comm (z / 128) 128]
      rw [uG_at s p i x h1, hb, if_neg (fun e => by have := hi9 e.1; omega), if_neg (by omega),
        ih (z / 128) (i + 1) _ (by omega) (by rw [show p + (i + 1) = p + i + 1 by omega]; exact h3) (by rw [e1]; exact hx) (fun _ => by omega), e1]
      congr 2
      omega
theorem uG_cut {s : ByteArray} {p : Nat} : ∀ (l z i x : Nat), (uvL z).length = l → Cut s (p + i) (uvL z) → x + z * 2 ^ (7 * i) < 18446744073709551616 → uG s p i x = .error 1 := by
  intro l
  induction l with
  | zero => intro z i x hl; have := uvL_pos z; omega
  | succ l ih =>
    intro z i x hl hp hx
    have hi9 : i = 9 → z ≤ 1 := by
      intro e
      subst e
      have : z * 9223372036854775808 < 18446744073709551616 := by
        have e : (2 : Nat) ^ (7 * 9) = 9223372036854775808 := rfl
        rw [e] at hx; omega
      omega
    by_cases h : z < 128
    · rw [uvL_last h] at hp
      rcases hp.cons with h1 | ⟨h1, h2, h3⟩
      · rw [uG, dif_neg (by omega)]
      · have := h3.2.1; have := h3.1; simp at *; omega
    · rw [uvL_more (by omega)] at hp hl
      rcases hp.cons with h1 | ⟨h1, h2, h3⟩
      · rw [uG, dif_neg (by omega)]
      · have hb : byt s (p + i) = z % 128 + 128 := by omega
        rw [List.length_cons] at hl
        have e1 : x + (z % 128 + 128) % 128 * 2 ^ (7 * i) + z / 128 * 2 ^ (7 * (i + 1)) = x + z * 2 ^ (7 * i) := by
          rw [show 7 * (i + 1) = 7 * i + 7 by omega, Nat.pow_add, show (2 : Nat) ^ 7 = 128 from rfl, show (z % 128 + 128) % 128 = z % 128 by omega]
          generalize 2 ^ (7 * i) = P
          have e2 : z = z % 128 + 128 * (z / 128) := by omega
          conv => rhs; rw [e2, Nat.add_mul]
          rw [Nat.add_assoc, Nat.mul_comm P 128, ← Nat.mul_assoc, Nat.mul_comm (z / 128) 128]
        rw [uG_at s p i x h1, hb, if_neg (fun e => by have := hi9 e.1; omega), if_neg (by omega)]
        exact ih (z / 128) (i + 1) _ (by omega) (by rw [show p + (i + 1) = p + i + 1 by omega]; exact h3) (by rw [e1]; exact hx)
theorem uG_read {s : ByteArray} {p x : Nat} (h : Pre s p (uvL x)) (hx : x < 18446744073709551616) : uG s p 0 0 = .ok (x, p + (uvL x).length) := by
  have := uG_pre _ x 0 0 rfl h (by simpa using hx) (fun h => absurd h (Nat.lt_irrefl _))
  simpa using this
theorem uG_short {s : ByteArray} {p x : Nat} (h : Cut s p (uvL x)) (hx : x < 18446744073709551616) : uG s p 0 0 = .error 1 :=
  uG_cut _ x 0 0 rfl h (by simpa using hx)
theorem upG_read {s : ByteArray} {p x : Nat} {m : Int} (h : Pre s p (uvL x)) (hx : x < 18446744073709551616) (hm : (x : Int) ≤ m) : upG s p m = .ok (x, p + (uvL x).length) := by
  unfold upG; rw [uG_read h hx]; simp only []; rw [if_neg (by omega)]
theorem upG_short {s : ByteArray} {p x : Nat} {m : Int} (h : Cut s p (uvL x)) (hx : x < 18446744073709551616) : upG s p m = .error 1 := by
  unfold upG; rw [uG_short h hx]
theorem pre_nums {s t : ByteArray} {p : Nat} (h : Pre s p (nums t)) : s.extract p (p + t.size) = t := by
  obtain ⟨h1, h2⟩ := h
  rw [nums_length] at h1 h2
  have h3 : nums (s.extract p (p + t.size)) = nums t := by rw [nums_ext h1, Nat.add_sub_cancel_left]; exact h2
  rw [← str_nums (s.extract p (p + t.size)), h3, str_nums]
theorem tG_read {s t : ByteArray} {p : Nat} {m : Int} (h : Pre s p (textL t)) (hm : (t.size : Int) ≤ m) (ht : t.size < 18446744073709551616) : tG s p m = .ok (t, p + (textL t).length) := by
  obtain ⟨h1, h2⟩ := h.app
  have h3 := h2.1
  rw [nums_length] at h3
  unfold tG
  rw [upG_read h1 ht hm]
  simp only []
  rw [if_neg (by omega), pre_nums h2]
  unfold textL
  rw [List.length_append, nums_length, Nat.add_assoc]
theorem tG_short {s t : ByteArray} {p : Nat} {m : Int} (h : Cut s p (textL t)) (hm : (t.size : Int) ≤ m) (ht : t.size < 18446744073709551616) : tG s p m = .error 1 := by
  unfold tG
  rcases h.app with h1 | ⟨h1, h2⟩
  · rw [upG_short h1 ht]
  · rw [upG_read h1 ht hm]
    simp only []
    have h3 := h2.2.1
    rw [nums_length] at h3
    rw [if_pos (by have := h2.1; omega)]
theorem lsA_read {s : ByteArray} {m : Int} : ∀ (M : List ByteArray) (q : Nat) (L : List ByteArray), Pre s q (tsLL M) → (∀ t ∈ M, (t.size : Int) ≤ m ∧ t.size < 18446744073709551616) → lsA s m M.length q L = .ok (L ++ M, q + (tsLL M).length) := by
  intro M
  induction M with
  | nil => intro q L _ _; show Except.ok (L, q) = _; simp [tsLL]
  | cons t M ih =>
    intro q L h hm
    obtain ⟨h1, h2⟩ := h.app
    have ht := hm t (by simp)
    rw [List.length_cons, lsA_ok (tG_read h1 ht.1 ht.2), ih _ _ h2 (fun u hu => hm u (by simp [hu])), List.append_assoc]
    show _ = Except.ok (L ++ t :: M, q + (textL t ++ tsLL M).length)
    rw [List.length_append, Nat.add_assoc]; rfl
theorem lsA_short {s : ByteArray} {m : Int} : ∀ (M : List ByteArray) (q : Nat) (L : List ByteArray), Cut s q (tsLL M) → (∀ t ∈ M, (t.size : Int) ≤ m ∧ t.size < 18446744073709551616) → lsA s m M.length q L = .error 1 := by
  intro M
  induction M with
  | nil => intro q L h _; have := h.2.1; have := h.1; simp [tsLL] at *; omega
  | cons t M ih =>
    intro q L h hm
    have ht := hm t (by simp)
    rw [List.length_cons]
    rcases h.app with h1 | ⟨h1, h2⟩
    · exact lsA_err (tG_short h1 ht.1 ht.2)
    · rw [lsA_ok (tG_read h1 ht.1 ht.2)]
      exact ih _ _ h2 (fun u hu => hm u (by simp [hu]))
theorem xsG_read {s : ByteArray} {p : Nat} {c m : Int} {M : List ByteArray} (h : Pre s p (uvL M.length ++ tsLL M)) (hc : (M.length : Int) ≤ c) (hl : M.length < 18446744073709551616) (hm : ∀ t ∈ M, (t.size : Int) ≤ m ∧ t.size < 18446744073709551616) : xsG s p c m = .ok (M, p + (uvL M.length ++ tsLL M).length) := by
  obtain ⟨h1, h2⟩ := h.app
  unfold xsG
  rw [upG_read h1 hl hc]
  simp only []
  rw [lsA_read M _ [] h2 hm, List.nil_append, List.length_append, Nat.add_assoc]
theorem xsG_short {s : ByteArray} {p : Nat} {c m : Int} {M : List ByteArray} (h : Cut s p (uvL M.length ++ tsLL M)) (hc : (M.length : Int) ≤ c) (hl : M.length < 18446744073709551616) (hm : ∀ t ∈ M, (t.size : Int) ≤ m ∧ t.size < 18446744073709551616) : xsG s p c m = .error 1 := by
  unfold xsG
  rcases h.app with h1 | ⟨h1, h2⟩
  · rw [upG_short h1 hl]
  · rw [upG_read h1 hl hc]
    exact lsA_short M _ [] h2 hm
theorem lowV_lowL {s : ByteArray} : ∀ (n p x : Nat), Pre s p (lowL x n) → x < 256 ^ n → lowV s p n = x := by
  have hd : ∀ (k p : Nat), lowV s p (k + 1) = byt s p + 256 * lowV s (p + 1) k := by
    intro k
    induction k with
    | zero => intro p; simp [lowV]
    | succ k ih =>
      intro p
      have e1 : lowV s p (k + 2) = lowV s p (k + 1) + byt s (p + (k + 1)) * 2 ^ (8 * (k + 1)) := rfl
      have e2 : lowV s (p + 1) (k + 1) = lowV s (p + 1) k + byt s (p + 1 + k) * 2 ^ (8 * k) := rfl
      rw [e1, ih p, e2, show p + 1 + k = p + (k + 1) by omega, show 8 * (k + 1) = 8 * k + 8 by omega, Nat.pow_add, show (2 : Nat) ^ 8 = 256 from rfl, Nat.mul_add, ← Nat.mul_assoc, Nat.mul_comm 256 (byt s (p + (k + 1)) * 2 ^ (8 * k))]
      omega
  intro n
  induction n with
  | zero => intro p x _ hx; simp at hx; subst hx; rfl
  | succ n ih =>
    intro p x h hx
    unfold lowL at h
    obtain ⟨h1, h2, h3⟩ := h.cons
    rw [hd n p, ih (p + 1) (x / 256) h3 (by rw [Nat.pow_succ] at hx; omega)]
    omega
theorem lowG_read {s : ByteArray} {p n x : Nat} (h : Pre s p (lowL x n)) (hx : x < 256 ^ n) : lowG s p n = .ok (x, p + n) := by
  have h1 := h.1
  rw [lowL_length] at h1
  unfold lowG
  rw [if_neg (by omega), lowV_lowL n p x h hx]
theorem lowG_short {s : ByteArray} {p n x : Nat} (h : Cut s p (lowL x n)) : lowG s p n = .error 1 := by
  have h1 := h.2.1; have h0 := h.1
  rw [lowL_length] at h1
  unfold lowG
  rw [if_pos (by omega)]
theorem fbits_lt {b : Nat} (h : b < 4294967296) : fbits b < 4294967296 := by unfold fbits; split <;> omega
theorem fG_read {s : ByteArray} {p b : Nat} (h : Pre s p (lowL (fbits b) 4)) (hb : b < 4294967296) : fG s p = .ok (fbits b, p + 4) := by
  unfold fG
  rw [lowG_read h (fbits_lt hb)]
  simp only []
  rw [if_neg]
  intro ⟨h1, h2⟩
  apply h2
  unfold fbits at h1 ⊢
  split
  · rfl
  · rename_i h3
    rw [if_neg h3] at h1
    exact absurd h1 h3
theorem fG_short {s : ByteArray} {p b : Nat} (h : Cut s p (lowL (fbits b) 4)) : fG s p = .error 1 := by
  unfold fG; rw [lowG_short h]
end Go.Proofs.YtnodjcapclkmhaaDoor
