/- Tokens and numbers: plain laws. -/
import Derived.Test.YtfcalpfpfibbfaaDoorBackP
import Derived.Test.YtfcalpfpfibbfaaDoorShelf
namespace Go.Proofs.YtfcalpfpfibbfaaDoor
open Go.RowKit

/-- The twelve digits of n. -/
def d12 (n : Nat) : ByteArray := ⟨((List.range 12).map fun t => Lib.dg n (11 - t)).toArray⟩
theorem d12_size (n : Nat) : (d12 n).size = 12 := by unfold d12; rw [size_list, List.length_map, List.length_range]
theorem dg_toNat (n j : Nat) : (Lib.dg n j).toNat = 48 + n / 10 ^ j % 10 := by
  unfold Lib.dg
  rw [UInt8.toNat_ofNat']
  have := Nat.mod_lt (n / 10 ^ j) (show 0 < 10 by decide)
  omega
theorem byt_d12 {n i : Nat} (h : i < 12) : byt (d12 n) i = 48 + n / 10 ^ (11 - i) % 10 := by
  unfold d12
  rw [byt_list (by rw [List.length_map, List.length_range]; exact h), List.getElem_map, List.getElem_range, dg_toNat]
/-- Itoa's digits behind as many noughts as make twelve. -/
theorem itoa_d12 {n : Nat} (h : n < 10 ^ 12) : Lib.nDigits n ≤ 12 ∧ (⟨(Lib.itoa n).toArray⟩ : ByteArray).size = Lib.nDigits n ∧ repS 48 (12 - Lib.nDigits n) ++ ⟨(Lib.itoa n).toArray⟩ = d12 n := by
  have hi : Lib.itoa n = Lib.decDigits n := by unfold Lib.itoa; rw [if_neg (by omega)]; rfl
  have hn : Lib.nDigits n ≤ 12 := by
    rcases Nat.lt_or_ge 12 (Lib.nDigits n) with hlt | hge
    · exfalso
      obtain ⟨k, hk⟩ : ∃ k, Lib.nDigits n = k + 1 := ⟨Lib.nDigits n - 1, by omega⟩
      have : ∀ m u, Lib.nDigits u = m + 1 → 1 ≤ m → 10 ^ m ≤ u := by
        intro m
        induction m with
        | zero => intro u _ h; omega
        | succ m ih =>
          intro u hu _
          by_cases hs : u < 10
          · rw [Lib.nDigits_small hs] at hu; omega
          · rw [Lib.nDigits_big hs] at hu
            rcases Nat.eq_zero_or_pos m with e | e
            · subst e; simp; omega
            · have := ih (u / 10) (by omega) e
              rw [Nat.pow_succ]; omega
      have h1 := this k n hk (by omega)
      have h2 := Nat.pow_le_pow_right (n := 10) (by decide) (show 12 ≤ k by omega)
      omega
    · exact hge
  have hs : (⟨(Lib.itoa n).toArray⟩ : ByteArray).size = Lib.nDigits n := by rw [size_list, hi, Lib.decDigits_length]
  refine ⟨hn, hs, ?_⟩
  have hr := repS_size 48 (12 - Lib.nDigits n)
  apply byt_ext
  · rw [ByteArray.size_append, hr, hs, d12_size]; omega
  · intro i hi2
    rw [ByteArray.size_append, hr, hs] at hi2
    rw [byt_d12 (by omega)]
    by_cases e : i < 12 - Lib.nDigits n
    · rw [byt_app_left (by omega), byt_repS e]
      have h1 := Lib.lt_pow_nDigits n
      have h2 := Nat.pow_le_pow_right (n := 10) (by decide) (show Lib.nDigits n ≤ 11 - i by omega)
      rw [Nat.div_eq_of_lt (by omega)]
      rfl
    · rw [byt_app_right (by omega), hr, byt_list (by rw [hi, Lib.decDigits_length]; omega)]
      have : (Lib.itoa n)[i - (12 - Lib.nDigits n)]'(by rw [hi, Lib.decDigits_length]; omega) = Lib.dg n (Lib.nDigits n - 1 - (i - (12 - Lib.nDigits n))) := by
        simp only [hi, Lib.decDigits_eq, List.getElem_map, List.getElem_range]
      rw [this, dg_toNat, show Lib.nDigits n - 1 - (i - (12 - Lib.nDigits n)) = 11 - i by omega]

/-- The lowest k digits. -/
def low (n : Nat) : Nat → ByteArray
  | 0 => ⟨#[]⟩
  | k + 1 => strOfNums [48 + ((n / 10 ^ k % 10 : Nat) : Int)] ++ low n k
theorem low_size (n : Nat) : ∀ k, (low n k).size = k
  | 0 => rfl
  | k + 1 => by unfold low; rw [ByteArray.size_append, strOfNums_size, low_size n k]; show 1 + k = _; omega
theorem byt_low (n : Nat) : ∀ k i, i < k → byt (low n k) i = 48 + n / 10 ^ (k - 1 - i) % 10
  | 0, i, h => by omega
  | k + 1, i, h => by
    unfold low
    have hs : (strOfNums [48 + ((n / 10 ^ k % 10 : Nat) : Int)]).size = 1 := strOfNums_size _
    rcases Nat.eq_zero_or_pos i with e | e
    · subst e
      rw [byt_app_left (by omega), byt_nums (by show 0 < 1; omega)]
      have := Nat.mod_lt (n / 10 ^ k) (show 0 < 10 by decide)
      show (48 + ((n / 10 ^ k % 10 : Nat) : Int)).toNat % 256 = _
      rw [show k + 1 - 1 - 0 = k by omega]
      omega
    · rw [byt_app_right (by omega), hs, byt_low n k (i - 1) (by omega), show k + 1 - 1 - i = k - 1 - (i - 1) by omega]
theorem low_d12 (n : Nat) : low n 12 = d12 n := by
  apply byt_ext
  · rw [low_size, d12_size]
  · intro i hi
    rw [low_size] at hi
    rw [byt_low n 12 i hi, byt_d12 hi]

def pee : ByteArray := { data := #[80] }
theorem pee_size : pee.size = 1 := rfl
/-- 'P' and the twelve digits. -/
def tok (n : Nat) : ByteArray := pee ++ d12 n
theorem tok_size (n : Nat) : (tok n).size = 13 := by unfold tok; rw [ByteArray.size_append, pee_size, d12_size]
theorem byt_tok0 (n : Nat) : byt (tok n) 0 = 80 := by unfold tok; rw [byt_app_left (by decide)]; rfl
theorem byt_tok {n i : Nat} (h : i < 12) : byt (tok n) (i + 1) = 48 + n / 10 ^ (11 - i) % 10 := by
  unfold tok; rw [byt_app_right (by rw [pee_size]; omega), pee_size, Nat.add_sub_cancel, byt_d12 h]
theorem dig_mod (m : Nat) : dig (48 + m % 10) = true := by
  have := Nat.mod_lt m (show 0 < 10 by decide)
  unfold dig; rw [Bool.and_eq_true, decide_eq_true_eq, decide_eq_true_eq]; omega
theorem digO_all {s : ByteArray} (h0 : s.size ≠ 0) (h : ∀ k, k < s.size → alnum (byt s k) = true) : ∃ d, digO s = some d ∧ d.size = 2 := by
  obtain ⟨r, hr⟩ := restK_all (s := s) s.size h
  obtain ⟨r', hr'⟩ := restO_zz_some (s := s) (r := r) (by unfold restO; rw [if_neg h0]; exact hr)
  exact ⟨_, by unfold digO; rw [if_neg h0, hr']; rfl, strOfNums_size _⟩
theorem tok_alnum (n : Nat) : ∀ k, k < (tok n).size → alnum (byt (tok n) k) = true := by
  intro k hk
  rw [tok_size] at hk
  rcases Nat.eq_zero_or_pos k with e | e
  · subst e; rw [byt_tok0]; rfl
  · obtain ⟨i, rfl⟩ : ∃ i, k = i + 1 := ⟨k - 1, by omega⟩
    rw [byt_tok (by omega)]
    unfold alnum
    rw [dig_mod, Bool.or_true]
theorem tok_dig (n : Nat) : ∃ d, digO (tok n) = some d ∧ d.size = 2 := digO_all (by rw [tok_size]; omega) (tok_alnum n)

/-- Token's answers. -/
def tokOk (n : Int) : Bool := decide ((1 : Int) ≤ n) && decide (n ≤ 999999999999)
def tokS (n : Int) : ByteArray := if tokOk n then tok n.toNat ++ ((digO (tok n.toNat)).getD ⟨#[]⟩) else ⟨#[]⟩
def tokE (n : Int) : Nat := if tokOk n then 0 else 6

/-- The value of the first k digits behind the first byte. -/
def dv (s : ByteArray) : Nat → Nat
  | 0 => 0
  | k + 1 => 10 * dv s k + (byt s (k + 1) - 48)
/-- Number's answers. -/
def numOk (s : ByteArray) : Bool := (s.size == 15) && (byt s 0 == 80) && allB dig (s.extract 1 s.size) (s.extract 1 s.size).size
def fits (s : ByteArray) : Bool := match digO (s.extract 0 13) with
  | some d => d.toList == (s.extract 13 15).toList
  | none => false
def numE (s : ByteArray) : Nat := if numOk s = false then 7 else if fits s = false then 8 else if dv s 12 = 0 then 7 else 0
def numN (s : ByteArray) : Nat := if numE s = 0 then dv s 12 else 0

theorem allB_from {s : ByteArray} (hs : s.size = 15) (h : allB dig (s.extract 1 s.size) (s.extract 1 s.size).size = true) {k : Nat} (h1 : 1 ≤ k) (h2 : k < 15) : dig (byt s k) = true := by
  have z := ext_size s 1 s.size (by omega)
  have := allB_at h (show k - 1 < (s.extract 1 s.size).size by omega)
  rwa [byt_extract (by omega) (by omega), show 1 + (k - 1) = k by omega] at this
theorem dig_iff {n : Nat} (h : dig n = true) : 48 ≤ n ∧ n ≤ 57 := by
  unfold dig at h; rw [Bool.and_eq_true, decide_eq_true_eq, decide_eq_true_eq] at h; exact h
theorem dv_lt {s : ByteArray} (hs : s.size = 15) (h : ∀ k, 1 ≤ k → k < 15 → dig (byt s k) = true) : ∀ k, k ≤ 12 → dv s k < 10 ^ k
  | 0, _ => by simp [dv]
  | k + 1, hk => by
    have := dv_lt hs h k (by omega)
    have := dig_iff (h (k + 1) (by omega) (by omega))
    unfold dv
    rw [Nat.pow_succ]; omega
theorem dv_lt12 {s : ByteArray} (hs : s.size = 15) (h : ∀ k, 1 ≤ k → k < 15 → dig (byt s k) = true) {k : Nat} (hk : k ≤ 12) : dv s k < 1000000000000 := by
  have h1 := dv_lt hs h k hk
  have h2 := Nat.pow_le_pow_right (n := 10) (by decide) hk
  have e : (10 : Nat) ^ 12 = 1000000000000 := by decide
  omega
theorem list_byt {s : ByteArray} {i : Nat} (h : i < s.size) : ∃ b, s.data.toList[i]? = some b ∧ b.toNat = byt s i := by
  refine ⟨s[i], ?_, (byt_eq h).symm⟩
  rw [Array.getElem?_toList]
  exact Array.getElem?_eq_getElem h
/-- What Atoi reads. -/
theorem atoi_dv {s : ByteArray} (hs : s.size = 15) (h : ∀ k, 1 ≤ k → k < 15 → dig (byt s k) = true) : Lib.atoi (s.extract 1 13).data.toList = some ((dv s 12 : Nat) : Int) := by
  have z := ext_size s 1 13 (by omega)
  have key : ∀ k, k ≤ 12 → Lib.decFrom 0 ((s.extract 1 13).data.toList.take k) = some (dv s k) := by
    intro k
    induction k with
    | zero => intro _; rfl
    | succ k ih =>
      intro hk
      obtain ⟨b, hb, e⟩ := list_byt (s := s.extract 1 13) (i := k) (by omega)
      rw [byt_extract (by omega) (by omega), show 1 + k = k + 1 by omega] at e
      have := dig_iff (h (k + 1) (by omega) (by omega))
      have := Lib.decFrom_take _ k 0 _ b (byt s (k + 1) - 48) (ih (by omega)) hb (by unfold Lib.digitVal; rw [e, if_pos this])
      rw [this]
      congr 1
      show dv s k * 10 + _ = 10 * dv s k + _
      omega
  have hl : (s.extract 1 13).data.toList.length = 12 := by rw [Array.length_toList]; exact z
  have hk := key 12 (Nat.le_refl _)
  rw [List.take_of_length_le (by omega)] at hk
  obtain ⟨b, hb, e⟩ := list_byt (s := s.extract 1 13) (i := 0) (by omega)
  rw [byt_extract (by omega) (by omega)] at e
  have hd := dig_iff (h 1 (by omega) (by omega))
  generalize (s.extract 1 13).data.toList = l at *
  cases l with
  | nil => simp at hl
  | cons c r =>
    obtain rfl : c = b := by simpa using hb
    have n1 : (c == 45) = false := by
      rw [beq_eq_false_iff_ne]; intro e2; have : (45 : UInt8).toNat = 45 := rfl; rw [e2] at e; rw [show 1 + 0 = 1 from rfl] at e; omega
    have n2 : (c == 43) = false := by
      rw [beq_eq_false_iff_ne]; intro e2; have : (43 : UInt8).toNat = 43 := rfl; rw [e2] at e; rw [show 1 + 0 = 1 from rfl] at e; omega
    simp only [Lib.atoi]
    rw [n1, n2]
    simp only [Bool.false_eq_true, if_false]
    unfold Lib.decNat
    rw [if_neg (by simp), hk]; rfl
end Go.Proofs.YtfcalpfpfibbfaaDoor
