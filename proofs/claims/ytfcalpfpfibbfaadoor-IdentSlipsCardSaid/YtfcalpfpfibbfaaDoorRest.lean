/- checks.Rest and Digits, walked. -/
import Derived.Test.YtfcalpfpfibbfaaDoorLeaf
import Derived.Deep.QuietTactic
import Derived.BigQuiet
import Derived.Deep.LoopGhost
import Derived.Laws.Closers25b
namespace Go.Proofs.YtfcalpfpfibbfaaDoor
open Go.RowKit

/-- The rest by 97 of the first k bytes; none: a byte that stands for nothing. -/
def restK (s : ByteArray) : Nat → Option Nat
  | 0 => some 0
  | k + 1 => match restK s k with
    | none => none
    | some r => if dig (byt s k) then some ((10 * r + (byt s k - 48)) % 97) else if cap (byt s k) then some ((100 * r + (byt s k - 65) + 10) % 97) else none

theorem restK_lt {s : ByteArray} {k r : Nat} (h : restK s k = some r) : r < 97 := by
  cases k with
  | zero => simp [restK] at h; omega
  | succ k =>
    unfold restK at h
    split at h
    · cases h
    · split at h
      · simp at h; omega
      · split at h
        · simp at h; omega
        · cases h
theorem restK_dig {s : ByteArray} {k r : Nat} (h : restK s k = some r) (hd : dig (byt s k) = true) : restK s (k + 1) = some ((10 * r + (byt s k - 48)) % 97) := by
  conv => lhs; unfold restK
  rw [h]; simp [hd]
theorem restK_cap {s : ByteArray} {k r : Nat} (h : restK s k = some r) (hd : dig (byt s k) = false) (hc : cap (byt s k) = true) : restK s (k + 1) = some ((100 * r + (byt s k - 65) + 10) % 97) := by
  conv => lhs; unfold restK
  rw [h]; simp [hd, hc]
theorem restK_bad {s : ByteArray} {k : Nat} (hd : dig (byt s k) = false) (hc : cap (byt s k) = false) : ∀ n, k < n → restK s n = none := by
  intro n hn
  induction n with
  | zero => omega
  | succ n ih =>
    unfold restK
    by_cases e : k = n
    · subst e
      split
      · rfl
      · simp [hd, hc]
    · rw [ih (by omega)]

theorem below_drewN {B : Nat} {a w : World} (h : Below B a w) (n : Nat) : Below B a (w.drewN n) := ⟨h.os, h.tape, h.output, h.size, h.block⟩
theorem byt_lt (s : ByteArray) (i : Nat) : byt s i < 256 := by
  unfold byt; split
  · exact UInt8.toNat_lt _
  · omega

theorem size_zero {s : ByteArray} (h : s.size = 0) : s = ByteArray.empty := by
  obtain ⟨⟨l⟩⟩ := s
  have : l = [] := by simpa [ByteArray.size] using h
  subst this; rfl
theorem toList_ne {s : ByteArray} (h : s.size ≠ 0) : s.toList ≠ [] := fun e => h (by rw [(toList_nil_iff_emptyBytes s).1 e]; rfl)

/-- What Rest answers: the rest by 97 and no error, or ErrDigits. -/
def restO (s : ByteArray) : Option Nat := if s.size = 0 then none else restK s s.size
def okV (r : Int) : Value := .tuple #[.int .i64 r, .nilIface]
def badV (B : Nat → Addr) : Value := .tuple #[.int .i64 0, .iface 105 (.pointer (some (B 0)))]
def restV (B : Nat → Addr) (s : ByteArray) : Value := match restO s with
  | some r => okV r
  | none => badV B
theorem restV_none {B : Nat → Addr} {s : ByteArray} (h : restO s = none) : badV B = restV B s := by unfold restV; rw [h]
theorem restV_some {B : Nat → Addr} {s : ByteArray} {r : Nat} (h : restO s = some r) : okV r = restV B s := by unfold restV; rw [h]

set_option maxRecDepth 100000 in
set_option maxHeartbeats 1000000 in
theorem rest_any (B : Nat → Addr) (s : ByteArray) (w : World) (hE : Env3 w B) (hs : s.size ≤ 9223372036854775800) :
    Calls Tryd.prog 47 #[.string s] w fun e w' => e = .returned (restV B s) ∧ Below w.heap.size w w' := by
  have c0 := hE.cell 0 (by decide)
  have HE := Lib.hid hE; clear hE
  by_cases h0 : s.size = 0
  · have hl : s.toList = [] := (toList_nil_iff_emptyBytes s).2 (size_zero h0)
    have F := Lib.hid (restV_none (B := B) (show restO s = none by unfold restO; rw [if_pos h0]))
    generalize restV B s = V at *
    go_enter Tryd.func47, Tryd.ntmps47
    go_wp2
    go_quiet (fail)
    go_wp2
    go_ret2
    exact ⟨congrArg Ending.returned F.out, below_drewN (Below.refl _ _) _⟩
  · have hl := toList_ne h0
    have hl2 : s.toList.isEmpty = false := by simpa using hl
    have F0 := Lib.hid (show (restK s s.size = none → badV B = restV B s) ∧ ∀ r, restK s s.size = some r → okV r = restV B s from
      ⟨fun h => restV_none (by unfold restO; rw [if_neg h0]; exact h), fun r h => restV_some (by unfold restO; rw [if_neg h0]; exact h)⟩)
    have H0 := Lib.hid h0; clear h0
    generalize restV B s = V at *
    go_enter Tryd.func47, Tryd.ntmps47
    go_wp2
    go_loop [4, 5] (fun t i => ∃ k r : Nat, k ≤ s.size ∧ i = .int .i64 k ∧ t = .int .i64 r ∧ Hid (restK s k = some r)) (fun _ i => s.size - (intOf i).toNat)
    case atStart => exact ⟨0, 0, Nat.zero_le _, rfl, rfl, rfl⟩
    case round =>
      obtain ⟨k, r, hk, rfl, rfl, hr⟩ := hrel
      have r97 : (r : Int) ≤ 96 := by have := restK_lt hr.out; omega
      by_cases hlt : k < s.size
      · have hb : byt s k = s[k].toNat := by unfold byt; rw [dif_pos hlt]
        have h256 := byt_lt s k
        cases hd : dig (byt s k)
        · cases hc : cap (byt s k)
          · have F := Lib.hid (F0.out.1 (restK_bad hd hc s.size hlt))
            rw [hb] at hd hc h256
            have HB := Lib.hid hb; clear hb
            have hr2 : (s[k].toNat : Int) < 65 ∨ (90 : Int) < (s[k].toNat : Int) := by unfold cap at hc; simp at hc; omega
            rcases hr2 with hr2 | hr2
            all_goals
              go_wp2_with (go_at_call 59; refine (isDigit_any _ _).mono ?_; rintro e w' ⟨rfl, rfl⟩)
              go_quiet (fail)
              go_wp2
              go_ret2
              exact ⟨congrArg Ending.returned F.out, below_drewN (Below.refl _ _) _⟩
          · have F := Lib.hid (restK_cap hr.out hd hc)
            rw [hb] at hd hc h256 F
            have HB := Lib.hid hb; clear hb
            have q1 : (65 : Int) ≤ (s[k].toNat : Int) := by unfold cap at hc; simp at hc; omega
            have q2 : (s[k].toNat : Int) ≤ 90 := by unfold cap at hc; simp at hc; omega
            go_wp2_with (go_at_call 59; refine (isDigit_any _ _).mono ?_; rintro e w' ⟨rfl, rfl⟩)
            go_round
            case rel => exact ⟨k + 1, _, by omega, by go_num, by go_num, F.out⟩
            case measure => simp [intOf]; omega
        · have F := Lib.hid (restK_dig hr.out hd)
          rw [hb] at hd h256 F
          have HB := Lib.hid hb; clear hb
          have q1 : (48 : Int) ≤ (s[k].toNat : Int) := by unfold dig at hd; simp at hd; omega
          have q2 : (s[k].toNat : Int) ≤ 57 := by unfold dig at hd; simp at hd; omega
          go_wp2_with (go_at_call 59; refine (isDigit_any _ _).mono ?_; rintro e w' ⟨rfl, rfl⟩)
          go_round
          case rel => exact ⟨k + 1, _, by omega, by go_num, by go_num, F.out⟩
          case measure => simp [intOf]; omega
      · obtain rfl : k = s.size := by omega
        have F := Lib.hid (F0.out.2 _ hr.out)
        go_wp2
        go_ret2
        exact ⟨congrArg Ending.returned F.out, Below.refl _ _⟩
end Go.Proofs.YtfcalpfpfibbfaaDoor
