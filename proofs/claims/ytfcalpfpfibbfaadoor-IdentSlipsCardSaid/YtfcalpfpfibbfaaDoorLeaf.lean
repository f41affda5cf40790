/- The leaves of package ident and of the document's answer: which byte is what. -/
import Derived.Test.YtfcalpfpfibbfaaDoorNum
namespace Go.Proofs.YtfcalpfpfibbfaaDoor
open Go.RowKit

def cap (n : Nat) : Bool := decide (65 ≤ n) && decide (n ≤ 90)
def dig (n : Nat) : Bool := decide (48 ≤ n) && decide (n ≤ 57)

theorem capital_any (n : Nat) (w : World) : Calls Tryd.prog 39 #[.int .u8 n] w fun e w' => e = .returned (.bool (cap n)) ∧ w' = w := by
  by_cases h1 : (65 : Int) ≤ (n : Int)
  · by_cases h2 : (n : Int) ≤ 90
    · have e : cap n = true := by unfold cap; simp; omega
      rw [e]; clear e
      go_enter Tryd.func39, Tryd.ntmps39
      go_wp2
      go_ret
      exact ⟨rfl, rfl⟩
    · have e : cap n = false := by unfold cap; simp; omega
      rw [e]; clear e
      go_enter Tryd.func39, Tryd.ntmps39
      go_wp2
      go_ret
      exact ⟨rfl, rfl⟩
  · have e : cap n = false := by unfold cap; simp; omega
    rw [e]; clear e
    go_enter Tryd.func39, Tryd.ntmps39
    go_wp2
    go_ret
    exact ⟨rfl, rfl⟩

theorem rcapital_any (n : Nat) (w : World) : Calls Tryd.prog 40 #[.int .u8 n] w fun e w' => e = .returned (.bool (cap n)) ∧ w' = w := by
  by_cases h1 : (65 : Int) ≤ (n : Int)
  · by_cases h2 : (n : Int) ≤ 90
    · have e : cap n = true := by unfold cap; simp; omega
      rw [e]; clear e
      go_enter Tryd.func40, Tryd.ntmps40
      go_wp2
      go_ret
      exact ⟨rfl, rfl⟩
    · have e : cap n = false := by unfold cap; simp; omega
      rw [e]; clear e
      go_enter Tryd.func40, Tryd.ntmps40
      go_wp2
      go_ret
      exact ⟨rfl, rfl⟩
  · have e : cap n = false := by unfold cap; simp; omega
    rw [e]; clear e
    go_enter Tryd.func40, Tryd.ntmps40
    go_wp2
    go_ret
    exact ⟨rfl, rfl⟩

theorem digit_any (n : Nat) (w : World) : Calls Tryd.prog 36 #[.int .u8 n] w fun e w' => e = .returned (.bool (dig n)) ∧ w' = w := by
  by_cases h1 : (48 : Int) ≤ (n : Int)
  · by_cases h2 : (n : Int) ≤ 57
    · have e : dig n = true := by unfold dig; simp; omega
      rw [e]; clear e
      go_enter Tryd.func36, Tryd.ntmps36
      go_wp2
      go_ret
      exact ⟨rfl, rfl⟩
    · have e : dig n = false := by unfold dig; simp; omega
      rw [e]; clear e
      go_enter Tryd.func36, Tryd.ntmps36
      go_wp2
      go_ret
      exact ⟨rfl, rfl⟩
  · have e : dig n = false := by unfold dig; simp; omega
    rw [e]; clear e
    go_enter Tryd.func36, Tryd.ntmps36
    go_wp2
    go_ret
    exact ⟨rfl, rfl⟩

theorem rdigit_any (n : Nat) (w : World) : Calls Tryd.prog 41 #[.int .u8 n] w fun e w' => e = .returned (.bool (dig n)) ∧ w' = w := by
  by_cases h1 : (48 : Int) ≤ (n : Int)
  · by_cases h2 : (n : Int) ≤ 57
    · have e : dig n = true := by unfold dig; simp; omega
      rw [e]; clear e
      go_enter Tryd.func41, Tryd.ntmps41
      go_wp2
      go_ret
      exact ⟨rfl, rfl⟩
    · have e : dig n = false := by unfold dig; simp; omega
      rw [e]; clear e
      go_enter Tryd.func41, Tryd.ntmps41
      go_wp2
      go_ret
      exact ⟨rfl, rfl⟩
  · have e : dig n = false := by unfold dig; simp; omega
    rw [e]; clear e
    go_enter Tryd.func41, Tryd.ntmps41
    go_wp2
    go_ret
    exact ⟨rfl, rfl⟩

theorem ldigit_any (n : Nat) (w : World) : Calls Tryd.prog 45 #[.int .u8 n] w fun e w' => e = .returned (.bool (dig n)) ∧ w' = w := by
  by_cases h1 : (48 : Int) ≤ (n : Int)
  · by_cases h2 : (n : Int) ≤ 57
    · have e : dig n = true := by unfold dig; simp; omega
      rw [e]; clear e
      go_enter Tryd.func45, Tryd.ntmps45
      go_wp2
      go_ret
      exact ⟨rfl, rfl⟩
    · have e : dig n = false := by unfold dig; simp; omega
      rw [e]; clear e
      go_enter Tryd.func45, Tryd.ntmps45
      go_wp2
      go_ret
      exact ⟨rfl, rfl⟩
  · have e : dig n = false := by unfold dig; simp; omega
    rw [e]; clear e
    go_enter Tryd.func45, Tryd.ntmps45
    go_wp2
    go_ret
    exact ⟨rfl, rfl⟩

theorem isDigit_any (n : Nat) (w : World) : Calls Tryd.prog 59 #[.int .u8 n] w fun e w' => e = .returned (.bool (dig n)) ∧ w' = w := by
  by_cases h1 : (48 : Int) ≤ (n : Int)
  · by_cases h2 : (n : Int) ≤ 57
    · have e : dig n = true := by unfold dig; simp; omega
      rw [e]; clear e
      go_enter Tryd.func59, Tryd.ntmps59
      go_wp2
      go_ret
      exact ⟨rfl, rfl⟩
    · have e : dig n = false := by unfold dig; simp; omega
      rw [e]; clear e
      go_enter Tryd.func59, Tryd.ntmps59
      go_wp2
      go_ret
      exact ⟨rfl, rfl⟩
  · have e : dig n = false := by unfold dig; simp; omega
    rw [e]; clear e
    go_enter Tryd.func59, Tryd.ntmps59
    go_wp2
    go_ret
    exact ⟨rfl, rfl⟩

/-- A digit or a capital letter. -/
def alnum (n : Nat) : Bool := cap n || dig n

theorem plain1_any (n : Nat) (w : World) : Calls Tryd.prog 58 #[.int .u8 n] w fun e w' => e = .returned (.bool (alnum n)) ∧ w' = w := by
  unfold alnum
  cases hc : cap n
  · go_enter Tryd.func58, Tryd.ntmps58
    go_wp2_with (first | (go_at_call 39; refine (capital_any _ _).mono ?_; rintro e w' ⟨rfl, rfl⟩) | (go_at_call 36; refine (digit_any _ _).mono ?_; rintro e w' ⟨rfl, rfl⟩))
    go_ret
    exact ⟨rfl, rfl⟩
  · go_enter Tryd.func58, Tryd.ntmps58
    go_wp2_with (first | (go_at_call 39; refine (capital_any _ _).mono ?_; rintro e w' ⟨rfl, rfl⟩) | (go_at_call 36; refine (digit_any _ _).mono ?_; rintro e w' ⟨rfl, rfl⟩))
    go_ret
    exact ⟨rfl, rfl⟩

/-- The byte at place i. -/
def byt (s : ByteArray) (i : Nat) : Nat := if h : i < s.size then s[i].toNat else 0
/-- Are the first k bytes all so? -/
def allB (p : Nat → Bool) (s : ByteArray) : Nat → Bool
  | 0 => true
  | k + 1 => allB p s k && p (byt s k)
theorem allB_false {p : Nat → Bool} {s : ByteArray} {k n : Nat} (hk : k < n) (h : p (byt s k) = false) : allB p s n = false := by
  induction n with
  | zero => omega
  | succ m ih =>
    unfold allB
    by_cases e : k = m
    · subst e; rw [h, Bool.and_false]
    · rw [ih (by omega), Bool.false_and]

theorem all_capital (s : ByteArray) (w : World) (hs : s.size ≤ 9223372036854775800) : Calls Tryd.prog 35 #[.string s, .func (.func 39) #[] #[]] w fun e w' => e = .returned (.bool (allB cap s s.size)) ∧ w' = w := by
  go_enter Tryd.func35, Tryd.ntmps35
  go_wp2
  go_loop [8] (fun i => ∃ k : Nat, k ≤ s.size ∧ i = .int .i64 k ∧ allB cap s k = true) (fun i => s.size - (intOf i).toNat)
  case atStart => exact ⟨0, Nat.zero_le _, rfl, rfl⟩
  case round =>
    obtain ⟨k, hk, rfl, hall⟩ := hrel
    by_cases hlt : k < s.size
    · have hb : byt s k = s[k].toNat := by unfold byt; rw [dif_pos hlt]
      cases hp : cap (byt s k)
      · have F := Lib.hid (allB_false hlt hp)
        rw [hb] at hp
        have HB := Lib.hid hb; clear hb
        have HL := Lib.hid hall; clear hall
        go_wp2_with (go_at_call 39; refine (capital_any _ _).mono ?_; rintro e w' ⟨rfl, rfl⟩)
        go_ret
        exact ⟨by rw [F.out]; rfl, rfl⟩
      · have F := Lib.hid (show allB cap s (k + 1) = true by unfold allB; rw [hall, hp]; rfl)
        rw [hb] at hp
        have HB := Lib.hid hb; clear hb
        have HL := Lib.hid hall; clear hall
        go_wp2_with (go_at_call 39; refine (capital_any _ _).mono ?_; rintro e w' ⟨rfl, rfl⟩)
        go_round
        case rel => exact ⟨k + 1, by omega, by go_num, F.out⟩
        case measure => simp [intOf]; omega
    · obtain rfl : k = s.size := by omega
      have HL := Lib.hid hall; clear hall
      go_wp2
      go_ret
      exact ⟨by rw [HL.out]; rfl, rfl⟩

theorem all_digit (s : ByteArray) (w : World) (hs : s.size ≤ 9223372036854775800) : Calls Tryd.prog 35 #[.string s, .func (.func 36) #[] #[]] w fun e w' => e = .returned (.bool (allB dig s s.size)) ∧ w' = w := by
  go_enter Tryd.func35, Tryd.ntmps35
  go_wp2
  go_loop [8] (fun i => ∃ k : Nat, k ≤ s.size ∧ i = .int .i64 k ∧ allB dig s k = true) (fun i => s.size - (intOf i).toNat)
  case atStart => exact ⟨0, Nat.zero_le _, rfl, rfl⟩
  case round =>
    obtain ⟨k, hk, rfl, hall⟩ := hrel
    by_cases hlt : k < s.size
    · have hb : byt s k = s[k].toNat := by unfold byt; rw [dif_pos hlt]
      cases hp : dig (byt s k)
      · have F := Lib.hid (allB_false hlt hp)
        rw [hb] at hp
        have HB := Lib.hid hb; clear hb
        have HL := Lib.hid hall; clear hall
        go_wp2_with (go_at_call 36; refine (digit_any _ _).mono ?_; rintro e w' ⟨rfl, rfl⟩)
        go_ret
        exact ⟨by rw [F.out]; rfl, rfl⟩
      · have F := Lib.hid (show allB dig s (k + 1) = true by unfold allB; rw [hall, hp]; rfl)
        rw [hb] at hp
        have HB := Lib.hid hb; clear hb
        have HL := Lib.hid hall; clear hall
        go_wp2_with (go_at_call 36; refine (digit_any _ _).mono ?_; rintro e w' ⟨rfl, rfl⟩)
        go_round
        case rel => exact ⟨k + 1, by omega, by go_num, F.out⟩
        case measure => simp [intOf]; omega
    · obtain rfl : k = s.size := by omega
      have HL := Lib.hid hall; clear hall
      go_wp2
      go_ret
      exact ⟨by rw [HL.out]; rfl, rfl⟩

theorem all_plain (s : ByteArray) (w : World) (hs : s.size ≤ 9223372036854775800) : Calls Tryd.prog 35 #[.string s, .func (.func 58) #[] #[]] w fun e w' => e = .returned (.bool (allB alnum s s.size)) ∧ w' = w := by
  go_enter Tryd.func35, Tryd.ntmps35
  go_wp2
  go_loop [8] (fun i => ∃ k : Nat, k ≤ s.size ∧ i = .int .i64 k ∧ allB alnum s k = true) (fun i => s.size - (intOf i).toNat)
  case atStart => exact ⟨0, Nat.zero_le _, rfl, rfl⟩
  case round =>
    obtain ⟨k, hk, rfl, hall⟩ := hrel
    by_cases hlt : k < s.size
    · have hb : byt s k = s[k].toNat := by unfold byt; rw [dif_pos hlt]
      cases hp : alnum (byt s k)
      · have F := Lib.hid (allB_false hlt hp)
        rw [hb] at hp
        have HB := Lib.hid hb; clear hb
        have HL := Lib.hid hall; clear hall
        go_wp2_with (go_at_call 58; refine (plain1_any _ _).mono ?_; rintro e w' ⟨rfl, rfl⟩)
        go_ret
        exact ⟨by rw [F.out]; rfl, rfl⟩
      · have F := Lib.hid (show allB alnum s (k + 1) = true by unfold allB; rw [hall, hp]; rfl)
        rw [hb] at hp
        have HB := Lib.hid hb; clear hb
        have HL := Lib.hid hall; clear hall
        go_wp2_with (go_at_call 58; refine (plain1_any _ _).mono ?_; rintro e w' ⟨rfl, rfl⟩)
        go_round
        case rel => exact ⟨k + 1, by omega, by go_num, F.out⟩
        case measure => simp [intOf]; omega
    · obtain rfl : k = s.size := by omega
      have HL := Lib.hid hall; clear hall
      go_wp2
      go_ret
      exact ⟨by rw [HL.out]; rfl, rfl⟩
end Go.Proofs.YtfcalpfpfibbfaaDoor
