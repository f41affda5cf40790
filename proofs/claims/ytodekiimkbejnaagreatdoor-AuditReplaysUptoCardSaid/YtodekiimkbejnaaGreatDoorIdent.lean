/- Package ident, checks, money.Code: walked (turned from the ident seat). -/
import Derived.Test.YtodekiimkbejnaaGreatDoorNum
import Derived.BigQuiet
import Derived.Deep.LoopGhost
import Derived.Deep.QuietTactic
import Derived.Deep.RegionWith
import Derived.Laws.BytesArg
import Derived.Laws.Closers25b
import Derived.StillTailTactics
namespace Go.Proofs.YtodekiimkbejnaaGreatDoor
open Go.RowKit

def cap (n : Nat) : Bool := decide (65 ≤ n) && decide (n ≤ 90)
def dig (n : Nat) : Bool := decide (48 ≤ n) && decide (n ≤ 57)

theorem capital_any (n : Nat) (w : World) : Calls Tryz.prog 42 #[.int .u8 n] w fun e w' => e = .returned (.bool (cap n)) ∧ w' = w := by
  by_cases h1 : (65 : Int) ≤ (n : Int)
  · by_cases h2 : (n : Int) ≤ 90
    · have e : cap n = true := by unfold cap; simp; omega
      rw [e]; clear e
      go_enter Tryz.func42, Tryz.ntmps42
      go_wp2
      go_ret
      exact ⟨rfl, rfl⟩
    · have e : cap n = false := by unfold cap; simp; omega
      rw [e]; clear e
      go_enter Tryz.func42, Tryz.ntmps42
      go_wp2
      go_ret
      exact ⟨rfl, rfl⟩
  · have e : cap n = false := by unfold cap; simp; omega
    rw [e]; clear e
    go_enter Tryz.func42, Tryz.ntmps42
    go_wp2
    go_ret
    exact ⟨rfl, rfl⟩

theorem digit_any (n : Nat) (w : World) : Calls Tryz.prog 43 #[.int .u8 n] w fun e w' => e = .returned (.bool (dig n)) ∧ w' = w := by
  by_cases h1 : (48 : Int) ≤ (n : Int)
  · by_cases h2 : (n : Int) ≤ 57
    · have e : dig n = true := by unfold dig; simp; omega
      rw [e]; clear e
      go_enter Tryz.func43, Tryz.ntmps43
      go_wp2
      go_ret
      exact ⟨rfl, rfl⟩
    · have e : dig n = false := by unfold dig; simp; omega
      rw [e]; clear e
      go_enter Tryz.func43, Tryz.ntmps43
      go_wp2
      go_ret
      exact ⟨rfl, rfl⟩
  · have e : dig n = false := by unfold dig; simp; omega
    rw [e]; clear e
    go_enter Tryz.func43, Tryz.ntmps43
    go_wp2
    go_ret
    exact ⟨rfl, rfl⟩

theorem isDigit_any (n : Nat) (w : World) : Calls Tryz.prog 103 #[.int .u8 n] w fun e w' => e = .returned (.bool (dig n)) ∧ w' = w := by
  by_cases h1 : (48 : Int) ≤ (n : Int)
  · by_cases h2 : (n : Int) ≤ 57
    · have e : dig n = true := by unfold dig; simp; omega
      rw [e]; clear e
      go_enter Tryz.func103, Tryz.ntmps103
      go_wp2
      go_ret
      exact ⟨rfl, rfl⟩
    · have e : dig n = false := by unfold dig; simp; omega
      rw [e]; clear e
      go_enter Tryz.func103, Tryz.ntmps103
      go_wp2
      go_ret
      exact ⟨rfl, rfl⟩
  · have e : dig n = false := by unfold dig; simp; omega
    rw [e]; clear e
    go_enter Tryz.func103, Tryz.ntmps103
    go_wp2
    go_ret
    exact ⟨rfl, rfl⟩

/-- A digit or a capital letter. -/
def alnum (n : Nat) : Bool := cap n || dig n

theorem plain1_any (n : Nat) (w : World) : Calls Tryz.prog 102 #[.int .u8 n] w fun e w' => e = .returned (.bool (alnum n)) ∧ w' = w := by
  unfold alnum
  cases hc : cap n
  · go_enter Tryz.func102, Tryz.ntmps102
    go_wp2_with (first | (go_at_call 42; refine (capital_any _ _).mono ?_; rintro e w' ⟨rfl, rfl⟩) | (go_at_call 43; refine (digit_any _ _).mono ?_; rintro e w' ⟨rfl, rfl⟩))
    go_ret
    exact ⟨rfl, rfl⟩
  · go_enter Tryz.func102, Tryz.ntmps102
    go_wp2_with (first | (go_at_call 42; refine (capital_any _ _).mono ?_; rintro e w' ⟨rfl, rfl⟩) | (go_at_call 43; refine (digit_any _ _).mono ?_; rintro e w' ⟨rfl, rfl⟩))
    go_ret
    exact ⟨rfl, rfl⟩

/-- The byte at place i. -/
def byt (s : ByteArray) (i : Nat) : Nat := if h : i < s.size then s[i].toNat else 0
/-- Are the first k bytes all so? -/
def allB (p : Nat → Bool) (s : ByteArray) : Nat → Bool
  | 0 => true
  | k + 1 => allB p s k && p (byt s k)
theorem allB_false {p : Nat → Bool} {s : ByteArray} {k n : Nat} (hk : k < n) (h : p (byt s k) = false) : allB p s n = false := by
  induction n with
  | zero => omega
  | succ m ih =>
    unfold allB
    by_cases e : k = m
    · subst e; rw [h, Bool.and_false]
    · rw [ih (by omega), Bool.false_and]

theorem all_capital (s : ByteArray) (w : World) (hs : s.size ≤ 9223372036854775800) : Calls Tryz.prog 40 #[.string s, .func (.func 42) #[] #[]] w fun e w' => e = .returned (.bool (allB cap s s.size)) ∧ w' = w := by
  go_enter Tryz.func40, Tryz.ntmps40
  go_wp2
  go_loop [8] (fun i => ∃ k : Nat, k ≤ s.size ∧ i = .int .i64 k ∧ allB cap s k = true) (fun i => s.size - (intOf i).toNat)
  case atStart => exact ⟨0, Nat.zero_le _, rfl, rfl⟩
  case round =>
    obtain ⟨k, hk, rfl, hall⟩ := hrel
    by_cases hlt : k < s.size
    · have hb : byt s k = s[k].toNat := by unfold byt; rw [dif_pos hlt]
      cases hp : cap (byt s k)
      · have F := Lib.hid (allB_false hlt hp)
        rw [hb] at hp
        have HB := Lib.hid hb; clear hb
        have HL := Lib.hid hall; clear hall
        go_wp2_with (go_at_call 42; refine (capital_any _ _).mono ?_; rintro e w' ⟨rfl, rfl⟩)
        go_ret
        exact ⟨by rw [F.out]; rfl, rfl⟩
      · have F := Lib.hid (show allB cap s (k + 1) = true by unfold allB; rw [hall, hp]; rfl)
        rw [hb] at hp
        have HB := Lib.hid hb; clear hb
        have HL := Lib.hid hall; clear hall
        go_wp2_with (go_at_call 42; refine (capital_any _ _).mono ?_; rintro e w' ⟨rfl, rfl⟩)
        go_round
        case rel => exact ⟨k + 1, by omega, by go_num, F.out⟩
        case measure => simp [intOf]; omega
    · obtain rfl : k = s.size := by omega
      have HL := Lib.hid hall; clear hall
      go_wp2
      go_ret
      exact ⟨by rw [HL.out]; rfl, rfl⟩

theorem all_digit (s : ByteArray) (w : World) (hs : s.size ≤ 9223372036854775800) : Calls Tryz.prog 40 #[.string s, .func (.func 43) #[] #[]] w fun e w' => e = .returned (.bool (allB dig s s.size)) ∧ w' = w := by
  go_enter Tryz.func40, Tryz.ntmps40
  go_wp2
  go_loop [8] (fun i => ∃ k : Nat, k ≤ s.size ∧ i = .int .i64 k ∧ allB dig s k = true) (fun i => s.size - (intOf i).toNat)
  case atStart => exact ⟨0, Nat.zero_le _, rfl, rfl⟩
  case round =>
    obtain ⟨k, hk, rfl, hall⟩ := hrel
    by_cases hlt : k < s.size
    · have hb : byt s k = s[k].toNat := by unfold byt; rw [dif_pos hlt]
      cases hp : dig (byt s k)
      · have F := Lib.hid (allB_false hlt hp)
        rw [hb] at hp
        have HB := Lib.hid hb; clear hb
        have HL := Lib.hid hall; clear hall
        go_wp2_with (go_at_call 43; refine (digit_any _ _).mono ?_; rintro e w' ⟨rfl, rfl⟩)
        go_ret
        exact ⟨by rw [F.out]; rfl, rfl⟩
      · have F := Lib.hid (show allB dig s (k + 1) = true by unfold allB; rw [hall, hp]; rfl)
        rw [hb] at hp
        have HB := Lib.hid hb; clear hb
        have HL := Lib.hid hall; clear hall
        go_wp2_with (go_at_call 43; refine (digit_any _ _).mono ?_; rintro e w' ⟨rfl, rfl⟩)
        go_round
        case rel => exact ⟨k + 1, by omega, by go_num, F.out⟩
        case measure => simp [intOf]; omega
    · obtain rfl : k = s.size := by omega
      have HL := Lib.hid hall; clear hall
      go_wp2
      go_ret
      exact ⟨by rw [HL.out]; rfl, rfl⟩

theorem all_plain (s : ByteArray) (w : World) (hs : s.size ≤ 9223372036854775800) : Calls Tryz.prog 40 #[.string s, .func (.func 102) #[] #[]] w fun e w' => e = .returned (.bool (allB alnum s s.size)) ∧ w' = w := by
  go_enter Tryz.func40, Tryz.ntmps40
  go_wp2
  go_loop [8] (fun i => ∃ k : Nat, k ≤ s.size ∧ i = .int .i64 k ∧ allB alnum s k = true) (fun i => s.size - (intOf i).toNat)
  case atStart => exact ⟨0, Nat.zero_le _, rfl, rfl⟩
  case round =>
    obtain ⟨k, hk, rfl, hall⟩ := hrel
    by_cases hlt : k < s.size
    · have hb : byt s k = s[k].toNat := by unfold byt; rw [dif_pos hlt]
      cases hp : alnum (byt s k)
      · have F := Lib.hid (allB_false hlt hp)
        rw [hb] at hp
        have HB := Lib.hid hb; clear hb
        have HL := Lib.hid hall; clear hall
        go_wp2_with (go_at_call 102; refine (plain1_any _ _).mono ?_; rintro e w' ⟨rfl, rfl⟩)
        go_ret
        exact ⟨by rw [F.out]; rfl, rfl⟩
      · have F := Lib.hid (show allB alnum s (k + 1) = true by unfold allB; rw [hall, hp]; rfl)
        rw [hb] at hp
        have HB := Lib.hid hb; clear hb
        have HL := Lib.hid hall; clear hall
        go_wp2_with (go_at_call 102; refine (plain1_any _ _).mono ?_; rintro e w' ⟨rfl, rfl⟩)
        go_round
        case rel => exact ⟨k + 1, by omega, by go_num, F.out⟩
        case measure => simp [intOf]; omega
    · obtain rfl : k = s.size := by omega
      have HL := Lib.hid hall; clear hall
      go_wp2
      go_ret
      exact ⟨by rw [HL.out]; rfl, rfl⟩
/-- The rest by 97 of the first k bytes; none: a byte that stands for nothing. -/
def restK (s : ByteArray) : Nat → Option Nat
  | 0 => some 0
  | k + 1 => match restK s k with
    | none => none
    | some r => if dig (byt s k) then some ((10 * r + (byt s k - 48)) % 97) else if cap (byt s k) then some ((100 * r + (byt s k - 65) + 10) % 97) else none

theorem restK_lt {s : ByteArray} {k r : Nat} (h : restK s k = some r) : r < 97 := by
  cases k with
  | zero => simp [restK] at h; omega
  | succ k =>
    unfold restK at h
    split at h
    · cases h
    · split at h
      · simp at h; omega
      · split at h
        · simp at h; omega
        · cases h
theorem restK_dig {s : ByteArray} {k r : Nat} (h : restK s k = some r) (hd : dig (byt s k) = true) : restK s (k + 1) = some ((10 * r + (byt s k - 48)) % 97) := by
  conv => lhs; unfold restK
  rw [h]; simp [hd]
theorem restK_cap {s : ByteArray} {k r : Nat} (h : restK s k = some r) (hd : dig (byt s k) = false) (hc : cap (byt s k) = true) : restK s (k + 1) = some ((100 * r + (byt s k - 65) + 10) % 97) := by
  conv => lhs; unfold restK
  rw [h]; simp [hd, hc]
theorem restK_bad {s : ByteArray} {k : Nat} (hd : dig (byt s k) = false) (hc : cap (byt s k) = false) : ∀ n, k < n → restK s n = none := by
  intro n hn
  induction n with
  | zero => omega
  | succ n ih =>
    unfold restK
    by_cases e : k = n
    · subst e
      split
      · rfl
      · simp [hd, hc]
    · rw [ih (by omega)]

theorem below_drewN {B : Nat} {a w : World} (h : Below B a w) (n : Nat) : Below B a (w.drewN n) := ⟨h.os, h.tape, h.output, h.size, h.block⟩
theorem byt_lt (s : ByteArray) (i : Nat) : byt s i < 256 := by
  unfold byt; split
  · exact UInt8.toNat_lt _
  · omega

theorem size_zero {s : ByteArray} (h : s.size = 0) : s = ByteArray.empty := by
  obtain ⟨⟨l⟩⟩ := s
  have : l = [] := by simpa [ByteArray.size] using h
  subst this; rfl
theorem toList_ne {s : ByteArray} (h : s.size ≠ 0) : s.toList ≠ [] := fun e => h (by rw [(toList_nil_iff_emptyBytes s).1 e]; rfl)

/-- What Rest answers: the rest by 97 and no error, or ErrDigits. -/
def restO (s : ByteArray) : Option Nat := if s.size = 0 then none else restK s s.size
def okV (r : Int) : Value := .tuple #[.int .i64 r, .nilIface]
def badV (B : Nat → Addr) : Value := .tuple #[.int .i64 0, .iface 135 (.pointer (some (B 10)))]
def restV (B : Nat → Addr) (s : ByteArray) : Value := match restO s with
  | some r => okV r
  | none => badV B
theorem restV_none {B : Nat → Addr} {s : ByteArray} (h : restO s = none) : badV B = restV B s := by unfold restV; rw [h]
theorem restV_some {B : Nat → Addr} {s : ByteArray} {r : Nat} (h : restO s = some r) : okV r = restV B s := by unfold restV; rw [h]

set_option maxRecDepth 100000 in
set_option maxHeartbeats 1000000 in
theorem rest_any (B : Nat → Addr) (s : ByteArray) (w : World) (hE : Env w B) (hs : s.size ≤ 9223372036854775800) :
    Calls Tryz.prog 94 #[.string s] w fun e w' => e = .returned (restV B s) ∧ Below w.heap.size w w' := by
  have c0 := hE.cell 10 (by decide)
  have HE := Lib.hid hE; clear hE
  by_cases h0 : s.size = 0
  · have hl : s.toList = [] := (toList_nil_iff_emptyBytes s).2 (size_zero h0)
    have F := Lib.hid (restV_none (B := B) (show restO s = none by unfold restO; rw [if_pos h0]))
    generalize restV B s = V at *
    go_enter Tryz.func94, Tryz.ntmps94
    go_wp2
    go_quiet (fail)
    go_wp2
    go_ret2
    exact ⟨congrArg Ending.returned F.out, below_drewN (Below.refl _ _) _⟩
  · have hl := toList_ne h0
    have hl2 : s.toList.isEmpty = false := by simpa using hl
    have F0 := Lib.hid (show (restK s s.size = none → badV B = restV B s) ∧ ∀ r, restK s s.size = some r → okV r = restV B s from
      ⟨fun h => restV_none (by unfold restO; rw [if_neg h0]; exact h), fun r h => restV_some (by unfold restO; rw [if_neg h0]; exact h)⟩)
    have H0 := Lib.hid h0; clear h0
    generalize restV B s = V at *
    go_enter Tryz.func94, Tryz.ntmps94
    go_wp2
    go_loop [4, 5] (fun t i => ∃ k r : Nat, k ≤ s.size ∧ i = .int .i64 k ∧ t = .int .i64 r ∧ Hid (restK s k = some r)) (fun _ i => s.size - (intOf i).toNat)
    case atStart => exact ⟨0, 0, Nat.zero_le _, rfl, rfl, rfl⟩
    case round =>
      obtain ⟨k, r, hk, rfl, rfl, hr⟩ := hrel
      have r97 : (r : Int) ≤ 96 := by have := restK_lt hr.out; omega
      by_cases hlt : k < s.size
      · have hb : byt s k = s[k].toNat := by unfold byt; rw [dif_pos hlt]
        have h256 := byt_lt s k
        cases hd : dig (byt s k)
        · cases hc : cap (byt s k)
          · have F := Lib.hid (F0.out.1 (restK_bad hd hc s.size hlt))
            rw [hb] at hd hc h256
            have HB := Lib.hid hb; clear hb
            have hr2 : (s[k].toNat : Int) < 65 ∨ (90 : Int) < (s[k].toNat : Int) := by unfold cap at hc; simp at hc; omega
            rcases hr2 with hr2 | hr2
            all_goals
              go_wp2_with (go_at_call 103; refine (isDigit_any _ _).mono ?_; rintro e w' ⟨rfl, rfl⟩)
              go_quiet (fail)
              go_wp2
              go_ret2
              exact ⟨congrArg Ending.returned F.out, below_drewN (Below.refl _ _) _⟩
          · have F := Lib.hid (restK_cap hr.out hd hc)
            rw [hb] at hd hc h256 F
            have HB := Lib.hid hb; clear hb
            have q1 : (65 : Int) ≤ (s[k].toNat : Int) := by unfold cap at hc; simp at hc; omega
            have q2 : (s[k].toNat : Int) ≤ 90 := by unfold cap at hc; simp at hc; omega
            go_wp2_with (go_at_call 103; refine (isDigit_any _ _).mono ?_; rintro e w' ⟨rfl, rfl⟩)
            go_round
            case rel => exact ⟨k + 1, _, by omega, by go_num, by go_num, F.out⟩
            case measure => simp [intOf]; omega
        · have F := Lib.hid (restK_dig hr.out hd)
          rw [hb] at hd h256 F
          have HB := Lib.hid hb; clear hb
          have q1 : (48 : Int) ≤ (s[k].toNat : Int) := by unfold dig at hd; simp at hd; omega
          have q2 : (s[k].toNat : Int) ≤ 57 := by unfold dig at hd; simp at hd; omega
          go_wp2_with (go_at_call 103; refine (isDigit_any _ _).mono ?_; rintro e w' ⟨rfl, rfl⟩)
          go_round
          case rel => exact ⟨k + 1, _, by omega, by go_num, by go_num, F.out⟩
          case measure => simp [intOf]; omega
      · obtain rfl : k = s.size := by omega
        have F := Lib.hid (F0.out.2 _ hr.out)
        go_wp2
        go_ret2
        exact ⟨congrArg Ending.returned F.out, Below.refl _ _⟩
def zz (s : ByteArray) : ByteArray := s ++ { data := #[48, 48] }
theorem zz_size (s : ByteArray) : (zz s).size = s.size + 2 := by unfold zz; rw [ByteArray.size_append]; rfl
theorem byt_zz {s : ByteArray} {k : Nat} (h : k < s.size) : byt (zz s) k = byt s k := by
  unfold byt
  rw [dif_pos h, dif_pos (by rw [zz_size]; omega)]
  congr 1
  exact ByteArray.getElem_append_left h
theorem byt_zz' {s : ByteArray} {k : Nat} (h : s.size ≤ k) (h2 : k < s.size + 2) : byt (zz s) k = 48 := by
  unfold byt
  rw [dif_pos (by rw [zz_size]; omega)]
  have : (zz s)[k]'(by rw [zz_size]; omega) = ({ data := #[48, 48] } : ByteArray)[k - s.size]'(by show _ < 2; omega) := ByteArray.getElem_append_right h
  rw [this]
  obtain h | h : k - s.size = 0 ∨ k - s.size = 1 := by omega
  all_goals simp only [h]; rfl
theorem restK_zz {s : ByteArray} : ∀ k, k ≤ s.size → restK (zz s) k = restK s k
  | 0, _ => rfl
  | k + 1, h => by
    unfold restK
    rw [restK_zz k (by omega), byt_zz (by omega)]
theorem restO_zz_none {s : ByteArray} (h0 : s.size ≠ 0) (h : restO s = none) : restO (zz s) = none := by
  unfold restO at h ⊢
  rw [if_neg h0] at h
  rw [if_neg (by rw [zz_size]; omega), zz_size]
  unfold restK; unfold restK
  rw [restK_zz _ (Nat.le_refl _), h]
theorem restO_zz_some {s : ByteArray} {r : Nat} (h : restO s = some r) : ∃ r', restO (zz s) = some r' := by
  unfold restO at h ⊢
  split at h
  · cases h
  · rw [if_neg (by rw [zz_size]; omega), zz_size]
    rw [← restK_zz _ (Nat.le_refl _)] at h
    have h1 := restK_dig h (by rw [byt_zz' (Nat.le_refl _) (by omega)]; rfl)
    have h2 := restK_dig h1 (by rw [byt_zz' (by omega) (by omega)]; rfl)
    exact ⟨_, h2⟩
theorem restO_lt {s : ByteArray} {r : Nat} (h : restO s = some r) : r < 97 := by
  unfold restO at h
  split at h
  · cases h
  · exact restK_lt h

/-- The two check digits of a number that leaves the rest r. -/
def cdig (r : Nat) : ByteArray := strOfNums [48 + (98 - (r : Int)) / 10, 48 + (98 - (r : Int)) % 10]
theorem conv2 (w : World) (x y : Int) : (convert 120 9 (.slice (some ⟨w.heap.size, 0, none⟩) 2 2)).run Tryz.prog (w.alloc (.cells #[.int .u8 x, .int .u8 y] 5)) = .ok (.string (strOfNums [x, y])) (w.alloc (.cells #[.int .u8 x, .int .u8 y] 5)) := by
  refine run_convert_bytes_arg _ 120 5 (by kernel_rfl) (by kernel_rfl) _ _ 2 2 [x, y] rfl ?_ 9 (by kernel_rfl)
  intro i hi
  obtain rfl | rfl : i = 0 ∨ i = 1 := by omega
  all_goals (unfold World.cell?; rw [heap_alloc_new]; rfl)
def digO (s : ByteArray) : Option ByteArray := if s.size = 0 then none else (restO (zz s)).map cdig
def digV (B : Nat → Addr) (s : ByteArray) : Value := match digO s with
  | some c => .tuple #[.string c, .nilIface]
  | none => .tuple #[.string ⟨#[]⟩, .iface 135 (.pointer (some (B 10)))]
theorem digV_none {B : Nat → Addr} {s : ByteArray} (h : digO s = none) : .tuple #[.string ⟨#[]⟩, .iface 135 (.pointer (some (B 10)))] = digV B s := by unfold digV; rw [h]
theorem digV_some {B : Nat → Addr} {s : ByteArray} {c : ByteArray} (h : digO s = some c) : .tuple #[.string c, .nilIface] = digV B s := by unfold digV; rw [h]

set_option maxRecDepth 100000 in
set_option maxHeartbeats 1000000 in
theorem digits_any (B : Nat → Addr) (s : ByteArray) (w : World) (hE : Env w B) (hs : s.size ≤ 9223372036854775000) :
    Calls Tryz.prog 74 #[.string s] w fun e w' => e = .returned (digV B s) ∧ Below w.heap.size w w' := by
  have c0 := hE.cell 10 (by decide)
  have HE := Lib.hid hE; clear hE
  by_cases h0 : s.size = 0
  · have hl : s.toList = [] := (toList_nil_iff_emptyBytes s).2 (size_zero h0)
    have F := Lib.hid (digV_none (B := B) (show digO s = none by unfold digO; rw [if_pos h0]))
    generalize digV B s = V at *
    go_enter Tryz.func74, Tryz.ntmps74
    go_wp2
    go_quiet (fail)
    go_wp2
    go_ret2
    exact ⟨congrArg Ending.returned F.out, below_drewN (Below.refl _ _) _⟩
  · have hl := toList_ne h0
    have hl2 : s.toList.isEmpty = false := by simpa using hl
    have hz : zz s = s ++ { data := #[48, 48] } := rfl
    have hzs : (zz s).size ≤ 9223372036854775800 := by rw [zz_size]; omega
    have F0 := Lib.hid (show (restO (zz s) = none → _ = digV B s) ∧ ∀ r, restO (zz s) = some r → _ = digV B s from
      ⟨fun h => digV_none (by unfold digO; rw [if_neg h0, h]; rfl), fun r h => digV_some (by unfold digO; rw [if_neg h0, h]; rfl)⟩)
    have H0 := Lib.hid h0; clear h0
    generalize digV B s = V at *
    have hr := rest_any B (zz s) w HE.out hzs
    unfold restV at hr
    cases ho : restO (zz s) with
    | none =>
      rw [ho] at hr
      simp only [badV] at hr
      have F := Lib.hid (F0.out.1 ho)
      go_enter Tryz.func74, Tryz.ntmps74
      go_wp2_with (go_at_call 94; refine hr.mono ?_; rintro e w' ⟨rfl, hb⟩)
      go_ret2
      exact ⟨congrArg Ending.returned F.out, hb⟩
    | some r =>
      rw [ho] at hr
      simp only [okV] at hr
      have hr97 := restO_lt ho
      have F := Lib.hid (F0.out.2 r ho)
      have hc2 := conv2
      go_enter Tryz.func74, Tryz.ntmps74
      go_wp2_with (go_at_call 94; refine hr.mono ?_; rintro e w' ⟨rfl, hb⟩)
      go_ret2
      exact ⟨congrArg Ending.returned F.out, hb.alloc hb.size _⟩

theorem plain_any (s : ByteArray) (w : World) (hs : s.size ≤ 9223372036854775800) : Calls Tryz.prog 93 #[.string s] w fun e w' => e = .returned (.bool (allB alnum s s.size)) ∧ w' = w := by
  generalize hV : Value.bool (allB alnum s s.size) = V
  go_enter Tryz.func93, Tryz.ntmps93
  go_wp2_with (go_at_call 40; refine (all_plain s _ hs).mono ?_; rintro e w' ⟨rfl, rfl⟩)
  go_ret
  exact ⟨rfl, rfl⟩

/-- Is the country two capitals and the number 1 to 30 digits or capitals? -/
def prt (c b : ByteArray) : Bool := ((c.size : Int) == 2) && allB cap c c.size && decide ((1 : Int) ≤ (b.size : Int)) && decide ((b.size : Int) ≤ 30) && allB alnum b b.size

set_option maxRecDepth 100000 in
set_option maxHeartbeats 1000000 in
theorem parts_any (c b : ByteArray) (w : World) (hc : c.size ≤ 9223372036854775800) (hb : b.size ≤ 9223372036854775800) :
    Calls Tryz.prog 73 #[.string c, .string b] w fun e w' => e = .returned (.bool (prt c b)) ∧ w' = w := by
  have a1 := fun w => all_capital c w hc
  have a2 := fun w => plain_any b w hb
  unfold prt
  cases h1 : ((c.size : Int) == 2)
  · go_enter Tryz.func73, Tryz.ntmps73
    go_wp2
    go_ret
    exact ⟨rfl, rfl⟩
  · cases h2 : allB cap c c.size
    · rw [h2] at a1
      go_enter Tryz.func73, Tryz.ntmps73
      go_wp2_with (go_at_call 40; refine (a1 _).mono ?_; rintro e w' ⟨rfl, rfl⟩)
      go_ret
      exact ⟨rfl, rfl⟩
    · rw [h2] at a1
      cases h3 : decide ((1 : Int) ≤ (b.size : Int))
      · go_enter Tryz.func73, Tryz.ntmps73
        go_wp2_with (go_at_call 40; refine (a1 _).mono ?_; rintro e w' ⟨rfl, rfl⟩)
        go_ret
        exact ⟨rfl, rfl⟩
      · cases h4 : decide ((b.size : Int) ≤ 30)
        · go_enter Tryz.func73, Tryz.ntmps73
          go_wp2_with (go_at_call 40; refine (a1 _).mono ?_; rintro e w' ⟨rfl, rfl⟩)
          go_ret
          exact ⟨rfl, rfl⟩
        · generalize allB alnum b b.size = v at *
          go_enter Tryz.func73, Tryz.ntmps73
          go_wp2_with (first | (go_at_call 40; refine (a1 _).mono ?_; rintro e w' ⟨rfl, rfl⟩) | (go_at_call 93; refine (a2 _).mono ?_; rintro e w' ⟨rfl, rfl⟩))
          go_ret
          exact ⟨rfl, rfl⟩
theorem allB_at {p : Nat → Bool} {s : ByteArray} : ∀ {n k : Nat}, allB p s n = true → k < n → p (byt s k) = true
  | n + 1, k, h, hk => by
    unfold allB at h
    rw [Bool.and_eq_true] at h
    by_cases e : k = n
    · subst e; exact h.2
    · exact allB_at h.1 (by omega)
theorem restK_all {s : ByteArray} : ∀ n, (∀ k, k < n → alnum (byt s k) = true) → ∃ r, restK s n = some r
  | 0, _ => ⟨0, rfl⟩
  | n + 1, h => by
    obtain ⟨r, hr⟩ := restK_all n (fun k hk => h k (by omega))
    have := h n (by omega)
    unfold alnum at this
    cases hd : dig (byt s n)
    · cases hc : cap (byt s n)
      · rw [hd, hc] at this; cases this
      · exact ⟨_, restK_cap hr hd hc⟩
    · exact ⟨_, restK_dig hr hd⟩
theorem byt_app_left {a b : ByteArray} {k : Nat} (h : k < a.size) : byt (a ++ b) k = byt a k := by
  unfold byt
  rw [dif_pos h, dif_pos (by rw [ByteArray.size_append]; omega)]
  congr 1
  exact ByteArray.getElem_append_left h
theorem byt_app_right {a b : ByteArray} {k : Nat} (h : a.size ≤ k) : byt (a ++ b) k = byt b (k - a.size) := by
  unfold byt
  by_cases h2 : k - a.size < b.size
  · rw [dif_pos h2, dif_pos (by rw [ByteArray.size_append]; omega)]
    congr 1
    exact ByteArray.getElem_append_right h
  · rw [dif_neg h2, dif_neg (by rw [ByteArray.size_append]; omega)]

theorem prt_size {c b : ByteArray} (h : prt c b = true) : c.size = 2 ∧ 1 ≤ b.size ∧ b.size ≤ 30 := by
  unfold prt at h
  simp only [Bool.and_eq_true, beq_iff_eq, decide_eq_true_eq] at h
  omega
theorem prt_all {c b : ByteArray} (h : prt c b = true) : allB cap c c.size = true ∧ allB alnum b b.size = true := by
  unfold prt at h
  simp only [Bool.and_eq_true] at h
  exact ⟨h.1.1.1.2, h.2⟩

theorem prt_dig {c b : ByteArray} (h : prt c b = true) : ∃ d, digO (b ++ c) = some d ∧ d.size = 2 := by
  obtain ⟨h1, h2, h3⟩ := prt_size h
  obtain ⟨h4, h5⟩ := prt_all h
  have hs : (b ++ c).size = b.size + c.size := ByteArray.size_append
  obtain ⟨r, hr⟩ := restK_all (s := b ++ c) (b ++ c).size (fun k hk => by
    by_cases e : k < b.size
    · rw [byt_app_left e]; exact allB_at h5 e
    · rw [byt_app_right (by omega)]
      have := allB_at h4 (show k - b.size < c.size by omega)
      unfold alnum; rw [this]; rfl)
  obtain ⟨r', hr'⟩ := restO_zz_some (s := b ++ c) (r := r) (by unfold restO; rw [if_neg (by omega)]; exact hr)
  exact ⟨_, by unfold digO; rw [if_neg (by omega), hr']; rfl, strOfNums_size _⟩

/-- The number of Check's error: 0, ErrForm (7), ErrDigits (8). -/
def chk (s : ByteArray) : Nat :=
  if s.size < 4 then 7 else if prt (s.extract 0 2) (s.extract 4 s.size) = false then 7 else if allB dig (s.extract 2 4) (s.extract 2 4).size = false then 7
  else match digO (s.extract 4 s.size ++ s.extract 0 2) with
    | some d => if d.toList == (s.extract 2 4).toList then 0 else 8
    | none => 8

theorem ext_size (s : ByteArray) (a b : Nat) (h : b ≤ s.size) : (s.extract a b).size = b - a := by
  rw [ByteArray.size_extract, Nat.min_eq_left h]

/-- A frame that began behind draws. -/
theorem EnvN.same {w w1 : World} {n : Nat} (h : Below (w.drewN n).heap.size (w.drewN n) w1) : Below w.heap.size w w1 := ⟨h.os, h.tape, h.output, h.size, h.block⟩

set_option maxRecDepth 100000 in
set_option maxHeartbeats 1000000 in
theorem check_any (B : Nat → Addr) (s : ByteArray) (w : World) (hE : Env w B) (hs : s.size ≤ 9223372036854770000) :
    Calls Tryz.prog 44 #[.string s] w fun e w' => e = .returned (ev B (chk s)) ∧ Below w.heap.size w w' := by
  have c0 := hE.cell 10 (by decide)
  have c3 := hE.cell 11 (by decide)
  cases h4 : decide ((s.size : Int) < 4) with
  | true =>
    have e : ev B (chk s) = .iface 135 (.pointer (some (B 10))) := by unfold chk; rw [if_pos (by have := of_decide_eq_true h4; omega)]; rfl
    rw [e]; clear e
    have HE := Lib.hid hE; clear hE
    go_enter Tryz.func44, Tryz.ntmps44
    go_wp2
    go_quiet (fail)
    go_wp2
    go_ret
    exact ⟨rfl, below_drewN (Below.refl _ _) _⟩
  | false =>
    have h4' : (4 : Int) ≤ (s.size : Int) := by simpa using h4
    have z1 := ext_size s 0 2 (by omega)
    have z2 := ext_size s 2 4 (by omega)
    have z3 := ext_size s 4 s.size (by omega)
    have a1 := fun w => parts_any (s.extract 0 2) (s.extract 4 s.size) w (by omega) (by omega)
    have a2 := fun w => all_digit (s.extract 2 4) w (by omega)
    cases h1 : prt (s.extract 0 2) (s.extract 4 s.size)
    · have e : ev B (chk s) = .iface 135 (.pointer (some (B 10))) := by unfold chk; rw [if_neg (by omega), if_pos h1]; rfl
      rw [e]; clear e
      rw [h1] at a1
      have HE := Lib.hid hE; clear hE
      go_enter Tryz.func44, Tryz.ntmps44
      go_wp2
      go_quiet ((go_at_call 73; exact Calls.quiet_of_same (a1 _)))
      go_wp2
      go_ret
      exact ⟨rfl, below_drewN (Below.refl _ _) _⟩
    · cases h2 : allB dig (s.extract 2 4) (s.extract 2 4).size
      · have e : ev B (chk s) = .iface 135 (.pointer (some (B 10))) := by unfold chk; rw [if_neg (by omega), if_neg (by rw [h1]; decide), if_pos h2]; rfl
        rw [e]; clear e
        rw [h1] at a1
        rw [h2] at a2
        have HE := Lib.hid hE; clear hE
        go_enter Tryz.func44, Tryz.ntmps44
        go_wp2
        go_quiet ((first | (go_at_call 73; exact Calls.quiet_of_same (a1 _)) | (go_at_call 40; exact Calls.quiet_of_same (a2 _))))
        go_wp2
        go_ret
        exact ⟨rfl, below_drewN (Below.refl _ _) _⟩
      · obtain ⟨d, hd, s4⟩ := prt_dig h1
        have e0 : ev B (chk s) = ev B (if d.toList == (s.extract 2 4).toList then 0 else 8) := by unfold chk; rw [if_neg (by omega), if_neg (by rw [h1]; decide), if_neg (by rw [h2]; decide), hd]
        rw [h1] at a1
        rw [h2] at a2
        have a3 := fun w hE => digits_any B (s.extract 4 s.size ++ s.extract 0 2) w hE (by rw [ByteArray.size_append]; omega)
        unfold digV at a3
        rw [hd] at a3
        simp only at a3
        have a4 := Lib.hid (fun n => a3 (w.drewN n) (hE.below (below_drewN (Below.refl _ _) n))); clear a3
        have HD := Lib.hid hd; clear hd
        have HE := Lib.hid hE; clear hE
        cases h3 : d.toList == (s.extract 2 4).toList
        · rw [h3] at e0
          have e : ev B (chk s) = .iface 135 (.pointer (some (B 11))) := e0
          rw [e]; clear e e0
          go_enter Tryz.func44, Tryz.ntmps44
          go_wp2
          go_quiet ((first | (go_at_call 73; exact Calls.quiet_of_same (a1 _)) | (go_at_call 40; exact Calls.quiet_of_same (a2 _))))
          go_wp2_with fail
          go_region_with (go_at_call 74; refine (a4.out _).mono ?_; rintro e w1 ⟨rfl, hbw⟩)
          have hbw := EnvN.same hbw
          have c3' := (HE.out.below hbw).cell 11 (by decide)
          go_wp2
          go_ret
          exact ⟨rfl, hbw⟩
        · rw [h3] at e0
          have e : ev B (chk s) = .nilIface := e0
          rw [e]; clear e e0
          go_enter Tryz.func44, Tryz.ntmps44
          go_wp2
          go_quiet ((first | (go_at_call 73; exact Calls.quiet_of_same (a1 _)) | (go_at_call 40; exact Calls.quiet_of_same (a2 _))))
          go_wp2_with fail
          go_region_with (go_at_call 74; refine (a4.out _).mono ?_; rintro e w1 ⟨rfl, hbw⟩)
          have hbw := EnvN.same hbw
          have c3' := (HE.out.below hbw).cell 11 (by decide)
          go_wp2
          go_ret
          exact ⟨rfl, hbw⟩

def idb (n : Nat) : Bool := cap n || dig n || (decide ((97 : Int) ≤ (n : Int)) && decide ((n : Int) ≤ 122)) || ((n : Int) == 46) || ((n : Int) == 95) || ((n : Int) == 45)

set_option maxRecDepth 100000 in
theorem id1_any (n : Nat) (w : World) : Calls Tryz.prog 41 #[.int .u8 n] w fun e w' => e = .returned (.bool (idb n)) ∧ w' = w := by
  unfold idb
  cases hc : cap n
  · cases hd : dig n
    · rcases (show (n : Int) < 97 ∨ (97 : Int) ≤ (n : Int) by omega) with h1 | h1
      · have e : (false || false || (decide ((97 : Int) ≤ (n : Int)) && decide ((n : Int) ≤ 122)) || ((n : Int) == 46) || ((n : Int) == 95) || ((n : Int) == 45)) = (((n : Int) == 46) || ((n : Int) == 95) || ((n : Int) == 45)) := by
          rw [show decide ((97 : Int) ≤ (n : Int)) = false from decide_eq_false (by omega)]; simp
        rw [e]; clear e
        cases h4 : ((n : Int) == 46)
        · cases h5 : ((n : Int) == 95)
          · cases h6 : ((n : Int) == 45)
            · go_enter Tryz.func41, Tryz.ntmps41
              go_wp2_with (first | (go_at_call 42; refine (capital_any _ _).mono ?_; rintro e w' ⟨rfl, rfl⟩) | (go_at_call 43; refine (digit_any _ _).mono ?_; rintro e w' ⟨rfl, rfl⟩))
              go_ret
              exact ⟨rfl, rfl⟩
            · go_enter Tryz.func41, Tryz.ntmps41
              go_wp2_with (first | (go_at_call 42; refine (capital_any _ _).mono ?_; rintro e w' ⟨rfl, rfl⟩) | (go_at_call 43; refine (digit_any _ _).mono ?_; rintro e w' ⟨rfl, rfl⟩))
              go_ret
              exact ⟨rfl, rfl⟩
          · go_enter Tryz.func41, Tryz.ntmps41
            go_wp2_with (first | (go_at_call 42; refine (capital_any _ _).mono ?_; rintro e w' ⟨rfl, rfl⟩) | (go_at_call 43; refine (digit_any _ _).mono ?_; rintro e w' ⟨rfl, rfl⟩))
            go_ret
            exact ⟨rfl, rfl⟩
        · go_enter Tryz.func41, Tryz.ntmps41
          go_wp2_with (first | (go_at_call 42; refine (capital_any _ _).mono ?_; rintro e w' ⟨rfl, rfl⟩) | (go_at_call 43; refine (digit_any _ _).mono ?_; rintro e w' ⟨rfl, rfl⟩))
          go_ret
          exact ⟨rfl, rfl⟩
      · rcases (show (n : Int) ≤ 122 ∨ (122 : Int) < (n : Int) by omega) with h2 | h2
        · rw [show decide ((97 : Int) ≤ (n : Int)) = true from decide_eq_true h1, show decide ((n : Int) ≤ 122) = true from decide_eq_true h2]
          simp only [Bool.false_or, Bool.and_true, Bool.true_or]
          go_enter Tryz.func41, Tryz.ntmps41
          go_wp2_with (first | (go_at_call 42; refine (capital_any _ _).mono ?_; rintro e w' ⟨rfl, rfl⟩) | (go_at_call 43; refine (digit_any _ _).mono ?_; rintro e w' ⟨rfl, rfl⟩))
          go_ret
          exact ⟨rfl, rfl⟩
        · have h3 : ¬ (n : Int) ≤ 122 := by omega
          rw [show decide ((97 : Int) ≤ (n : Int)) = true from decide_eq_true h1]
          simp only [Bool.false_or, Bool.true_and]
          clear h2 h3
          go_enter Tryz.func41, Tryz.ntmps41
          go_wp2_with (first | (go_at_call 42; refine (capital_any _ _).mono ?_; rintro e w' ⟨rfl, rfl⟩) | (go_at_call 43; refine (digit_any _ _).mono ?_; rintro e w' ⟨rfl, rfl⟩))
          all_goals
            go_ret
            exact ⟨rfl, rfl⟩
    · go_enter Tryz.func41, Tryz.ntmps41
      go_wp2_with (first | (go_at_call 42; refine (capital_any _ _).mono ?_; rintro e w' ⟨rfl, rfl⟩) | (go_at_call 43; refine (digit_any _ _).mono ?_; rintro e w' ⟨rfl, rfl⟩))
      go_ret
      exact ⟨rfl, rfl⟩
  · go_enter Tryz.func41, Tryz.ntmps41
    go_wp2_with (first | (go_at_call 42; refine (capital_any _ _).mono ?_; rintro e w' ⟨rfl, rfl⟩) | (go_at_call 43; refine (digit_any _ _).mono ?_; rintro e w' ⟨rfl, rfl⟩))
    go_ret
    exact ⟨rfl, rfl⟩

theorem all_id (s : ByteArray) (w : World) (hs : s.size ≤ 9223372036854775800) : Calls Tryz.prog 40 #[.string s, .func (.func 41) #[] #[]] w fun e w' => e = .returned (.bool (allB idb s s.size)) ∧ w' = w := by
  go_enter Tryz.func40, Tryz.ntmps40
  go_wp2
  go_loop [8] (fun i => ∃ k : Nat, k ≤ s.size ∧ i = .int .i64 k ∧ allB idb s k = true) (fun i => s.size - (intOf i).toNat)
  case atStart => exact ⟨0, Nat.zero_le _, rfl, rfl⟩
  case round =>
    obtain ⟨k, hk, rfl, hall⟩ := hrel
    by_cases hlt : k < s.size
    · have hb : byt s k = s[k].toNat := by unfold byt; rw [dif_pos hlt]
      cases hp : idb (byt s k)
      · have F := Lib.hid (allB_false hlt hp)
        rw [hb] at hp
        have HB := Lib.hid hb; clear hb
        have HL := Lib.hid hall; clear hall
        go_wp2_with (go_at_call 41; refine (id1_any _ _).mono ?_; rintro e w' ⟨rfl, rfl⟩)
        go_ret
        exact ⟨by rw [F.out]; rfl, rfl⟩
      · have F := Lib.hid (show allB idb s (k + 1) = true by unfold allB; rw [hall, hp]; rfl)
        rw [hb] at hp
        have HB := Lib.hid hb; clear hb
        have HL := Lib.hid hall; clear hall
        go_wp2_with (go_at_call 41; refine (id1_any _ _).mono ?_; rintro e w' ⟨rfl, rfl⟩)
        go_round
        case rel => exact ⟨k + 1, by omega, by go_num, F.out⟩
        case measure => simp [intOf]; omega
    · obtain rfl : k = s.size := by omega
      have HL := Lib.hid hall; clear hall
      go_wp2
      go_ret
      exact ⟨by rw [HL.out]; rfl, rfl⟩
def idOk (s : ByteArray) : Bool := allB idb s s.size && !decide ((s.size : Int) < 1) && !decide ((32 : Int) < (s.size : Int))
def idV (B : Nat → Addr) (s : ByteArray) : Value := if idOk s then .nilIface else .iface 135 (.pointer (some (B 2)))

set_option maxRecDepth 100000 in
set_option maxHeartbeats 1000000 in
theorem id_any (B : Nat → Addr) (s : ByteArray) (w : World) (hE : Env w B) (hs : s.size ≤ 9223372036854775800) : Calls Tryz.prog 24 #[.string s] w fun e w' => e = .returned (idV B s) ∧ w' = w := by
  have c2 := hE.cell 2 (by decide)
  have HE := Lib.hid hE; clear hE
  have a1 := fun w => all_id s w hs
  unfold idV idOk
  cases h1 : allB idb s s.size
  · rw [h1] at a1
    go_enter Tryz.func24, Tryz.ntmps24
    go_wp2_with (go_at_call 40; refine (a1 _).mono ?_; rintro e w' ⟨rfl, rfl⟩)
    go_ret
    exact ⟨rfl, rfl⟩
  · rw [h1] at a1
    cases h2 : decide ((s.size : Int) < 1)
    · cases h3 : decide ((32 : Int) < (s.size : Int))
      · go_enter Tryz.func24, Tryz.ntmps24
        go_wp2_with (go_at_call 40; refine (a1 _).mono ?_; rintro e w' ⟨rfl, rfl⟩)
        go_ret
        exact ⟨rfl, rfl⟩
      · go_enter Tryz.func24, Tryz.ntmps24
        go_wp2_with (go_at_call 40; refine (a1 _).mono ?_; rintro e w' ⟨rfl, rfl⟩)
        go_ret
        exact ⟨rfl, rfl⟩
    · go_enter Tryz.func24, Tryz.ntmps24
      go_wp2_with (go_at_call 40; refine (a1 _).mono ?_; rintro e w' ⟨rfl, rfl⟩)
      go_ret
      exact ⟨rfl, rfl⟩

/-- Three capitals. -/
def cod (s : ByteArray) : Bool := allB cap s s.size && ((s.size : Int) == 3)

set_option maxRecDepth 100000 in
set_option maxHeartbeats 1000000 in
theorem code_any (s : ByteArray) (w : World) (hs : s.size ≤ 9223372036854775800) : Calls Tryz.prog 76 #[.string s] w fun e w' => e = .returned (.bool (cod s)) ∧ w' = w := by
  have F0 := Lib.hid (show (allB cap s s.size = false → Value.bool false = .bool (cod s)) ∧ (allB cap s s.size = true → Value.bool ((s.size : Int) == 3) = .bool (cod s)) from
    ⟨fun h => by unfold cod; rw [h]; rfl, fun h => by unfold cod; rw [h]; rfl⟩)
  generalize Value.bool (cod s) = V at *
  go_enter Tryz.func76, Tryz.ntmps76
  go_wp2
  go_loop [6] (fun i => ∃ k : Nat, k ≤ s.size ∧ i = .int .i64 k ∧ Hid (allB cap s k = true)) (fun i => s.size - (intOf i).toNat)
  case atStart => exact ⟨0, Nat.zero_le _, rfl, rfl⟩
  case round =>
    obtain ⟨k, hk, rfl, hall⟩ := hrel
    by_cases hlt : k < s.size
    · have hb : byt s k = s[k].toNat := by unfold byt; rw [dif_pos hlt]
      cases hc : cap (byt s k)
      · have F := Lib.hid (F0.out.1 (allB_false hlt hc))
        rw [hb] at hc
        have HB := Lib.hid hb; clear hb
        have hr2 : (s[k].toNat : Int) < 65 ∨ (90 : Int) < (s[k].toNat : Int) := by unfold cap at hc; simp at hc; omega
        clear hc
        rcases hr2 with hr2 | hr2
        · go_wp2
          go_ret
          exact ⟨congrArg Ending.returned F.out, rfl⟩
        · have hr3 : ¬ (s[k].toNat : Int) < 65 := by omega
          go_wp2
          go_ret
          exact ⟨congrArg Ending.returned F.out, rfl⟩
      · have F := Lib.hid (show allB cap s (k + 1) = true by unfold allB; rw [hall.out, hc]; rfl)
        rw [hb] at hc
        have HB := Lib.hid hb; clear hb
        have q1 : (65 : Int) ≤ (s[k].toNat : Int) := by unfold cap at hc; simp at hc; omega
        have q2 : (s[k].toNat : Int) ≤ 90 := by unfold cap at hc; simp at hc; omega
        clear hc
        go_wp2
        go_round
        case rel => exact ⟨k + 1, by omega, by go_num, F.out⟩
        case measure => simp [intOf]; omega
    · obtain rfl : k = s.size := by omega
      have F := Lib.hid (F0.out.2 hall.out)
      go_wp2
      go_ret
      exact ⟨congrArg Ending.returned F.out, rfl⟩

def pre (k : Int) : Option ByteArray := if k = 2 then some { data := #[111, 117, 116, 115, 105, 100, 101, 46] } else if k = 3 then some { data := #[115, 117, 115, 112, 101, 110, 115, 101, 46] }
  else if k = 4 then some { data := #[99, 108, 101, 97, 114, 105, 110, 103, 46] } else if k = 5 then some { data := #[102, 101, 101, 115, 46] } else none
/-- The system account of a kind and a code; none: the empty string. -/
def sys (k : Int) (s : ByteArray) : ByteArray := if cod s then (match pre k with | some p => p ++ s | none => ⟨#[]⟩) else ⟨#[]⟩
theorem cod_size {s : ByteArray} (h : cod s = true) : s.size = 3 := by
  unfold cod at h
  simp only [Bool.and_eq_true, beq_iff_eq] at h
  omega

set_option maxRecDepth 100000 in
set_option maxHeartbeats 1000000 in
theorem system_any (k : Int) (s : ByteArray) (w : World) (hs : s.size ≤ 9223372036854775800) : Calls Tryz.prog 47 #[.int .i64 k, .string s] w fun e w' => e = .returned (.string (sys k s)) ∧ w' = w := by
  have a1 := fun w => code_any s w hs
  cases h : cod s
  · have e : sys k s = ⟨#[]⟩ := by unfold sys; rw [h]; rfl
    rw [e]; clear e
    rw [h] at a1
    go_enter Tryz.func47, Tryz.ntmps47
    go_wp2_with (go_at_call 76; refine (a1 _).mono ?_; rintro e w' ⟨rfl, rfl⟩)
    go_ret
    exact ⟨rfl, rfl⟩
  · rw [h] at a1
    have s3 := cod_size h
    have e : sys k s = (match pre k with | some p => p ++ s | none => ⟨#[]⟩) := by unfold sys; rw [h]; rfl
    rw [e]; clear e
    unfold pre
    by_cases k2 : k = 2
    · subst k2
      go_enter Tryz.func47, Tryz.ntmps47
      go_wp2_with (go_at_call 76; refine (a1 _).mono ?_; rintro e w' ⟨rfl, rfl⟩)
      go_ret
      exact ⟨rfl, rfl⟩
    · by_cases k3 : k = 3
      · subst k3
        go_enter Tryz.func47, Tryz.ntmps47
        go_wp2_with (go_at_call 76; refine (a1 _).mono ?_; rintro e w' ⟨rfl, rfl⟩)
        go_ret
        exact ⟨rfl, rfl⟩
      · by_cases k4 : k = 4
        · subst k4
          go_enter Tryz.func47, Tryz.ntmps47
          go_wp2_with (go_at_call 76; refine (a1 _).mono ?_; rintro e w' ⟨rfl, rfl⟩)
          go_ret
          exact ⟨rfl, rfl⟩
        · by_cases k5 : k = 5
          · subst k5
            go_enter Tryz.func47, Tryz.ntmps47
            go_wp2_with (go_at_call 76; refine (a1 _).mono ?_; rintro e w' ⟨rfl, rfl⟩)
            go_ret
            exact ⟨rfl, rfl⟩
          · rw [if_neg k2, if_neg k3, if_neg k4, if_neg k5]
            simp only
            go_enter Tryz.func47, Tryz.ntmps47
            go_wp2_with (go_at_call 76; refine (a1 _).mono ?_; rintro e w' ⟨rfl, rfl⟩)
            go_ret
            exact ⟨rfl, rfl⟩

end Go.Proofs.YtodekiimkbejnaaGreatDoor
