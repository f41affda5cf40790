/- remitref03.value and Rest, walked. -/
import Derived.Test.YtfcalpfpfibbfaaDoorRest
namespace Go.Proofs.YtfcalpfpfibbfaaDoor
open Go.RowKit

def val (n : Nat) : Int := if dig n then (n : Int) - 48 else if cap n then (n : Int) - 65 + 10 else -1

theorem value_any (n : Nat) (hn : n < 256) (w : World) : Calls Tryd.prog 60 #[.int .u8 n] w fun e w' => e = .returned (.int .i64 (val n)) ∧ w' = w := by
  cases hd : dig n
  · cases hc : cap n
    · have e : val n = -1 := by unfold val; rw [if_neg (by simp [hd]), if_neg (by simp [hc])]
      rw [e]; clear e
      have h2 : (n : Int) < 65 ∨ (90 : Int) < (n : Int) := by unfold cap at hc; simp at hc; omega
      have h1 : (n : Int) < 48 ∨ (57 : Int) < (n : Int) := by unfold dig at hd; simp at hd; omega
      clear hd hc
      rcases h1 with h1 | h1 <;> rcases h2 with h2 | h2
      all_goals first | omega | (
        go_enter Tryd.func60, Tryd.ntmps60
        go_wp2
        go_ret
        exact ⟨rfl, rfl⟩)
    · have e : val n = (n : Int) - 65 + 10 := by unfold val; rw [if_neg (by simp [hd]), if_pos (by simp [hc])]
      rw [e]; clear e
      have h1 : (65 : Int) ≤ (n : Int) := by unfold cap at hc; simp at hc; omega
      have h2 : (n : Int) ≤ 90 := by unfold cap at hc; simp at hc; omega
      clear hd hc
      go_enter Tryd.func60, Tryd.ntmps60
      go_wp2
      go_ret
      exact ⟨rfl, rfl⟩
  · have e : val n = (n : Int) - 48 := by unfold val; rw [if_pos (by simp [hd])]
    rw [e]; clear e
    have h1 : (48 : Int) ≤ (n : Int) := by unfold dig at hd; simp at hd; omega
    have h2 : (n : Int) ≤ 57 := by unfold dig at hd; simp at hd; omega
    clear hd
    go_enter Tryd.func60, Tryd.ntmps60
    go_wp2
    go_ret
    exact ⟨rfl, rfl⟩

def okR (r : Int) : Value := .tuple #[.int .i64 r, .int .i64 0]
def badR : Value := .tuple #[.int .i64 0, .int .i64 7]
def refRestV (s : ByteArray) : Value := match restO s with
  | some r => okR r
  | none => badR
theorem refRestV_none {s : ByteArray} (h : restO s = none) : badR = refRestV s := by unfold refRestV; rw [h]
theorem refRestV_some {s : ByteArray} {r : Nat} (h : restO s = some r) : okR r = refRestV s := by unfold refRestV; rw [h]

set_option maxRecDepth 100000 in
set_option maxHeartbeats 1000000 in
theorem refRest_any (s : ByteArray) (w : World) (hs : s.size ≤ 9223372036854775800) :
    Calls Tryd.prog 48 #[.string s] w fun e w' => e = .returned (refRestV s) ∧ w' = w := by
  by_cases h0 : s.size = 0
  · have F := Lib.hid (refRestV_none (show restO s = none by unfold restO; rw [if_pos h0]))
    generalize refRestV s = V at *
    have h0' : (s.size : Int) = 0 := by omega
    go_enter Tryd.func48, Tryd.ntmps48
    go_wp2
    go_ret2
    exact ⟨congrArg Ending.returned F.out, rfl⟩
  · have F0 := Lib.hid (show (restK s s.size = none → badR = refRestV s) ∧ ∀ r, restK s s.size = some r → okR r = refRestV s from
      ⟨fun h => refRestV_none (by unfold restO; rw [if_neg h0]; exact h), fun r h => refRestV_some (by unfold restO; rw [if_neg h0]; exact h)⟩)
    have hz : ((s.size : Int) == 0) = false := beq_eq_false_iff_ne.2 (by omega)
    have H0 := Lib.hid h0; clear h0
    generalize refRestV s = V at *
    go_enter Tryd.func48, Tryd.ntmps48
    go_wp2
    go_loop [4, 5] (fun t i => ∃ k r : Nat, k ≤ s.size ∧ i = .int .i64 k ∧ t = .int .i64 r ∧ Hid (restK s k = some r)) (fun _ i => s.size - (intOf i).toNat)
    case atStart => exact ⟨0, 0, Nat.zero_le _, rfl, rfl, rfl⟩
    case round =>
      obtain ⟨k, r, hk, rfl, rfl, hr⟩ := hrel
      have r97 : (r : Int) ≤ 96 := by have := restK_lt hr.out; omega
      by_cases hlt : k < s.size
      · have hb : byt s k = s[k].toNat := by unfold byt; rw [dif_pos hlt]
        have h256 := byt_lt s k
        cases hd : dig (byt s k)
        · cases hc : cap (byt s k)
          · have F := Lib.hid (F0.out.1 (restK_bad hd hc s.size hlt))
            have hv : val (byt s k) = -1 := by unfold val; rw [if_neg (by simp [hd]), if_neg (by simp [hc])]
            rw [hb] at hv h256
            have HB := Lib.hid hb; clear hb
            go_wp2_with (go_at_call 60; refine (value_any _ h256 _).mono ?_; rintro e w' ⟨rfl, rfl⟩)
            go_ret2
            exact ⟨congrArg Ending.returned F.out, rfl⟩
          · have F := Lib.hid (restK_cap hr.out hd hc)
            have hv : val (byt s k) = (byt s k : Int) - 65 + 10 := by unfold val; rw [if_neg (by simp [hd]), if_pos (by simp [hc])]
            rw [hb] at hc h256 F hv
            have HB := Lib.hid hb; clear hb
            have q1 : (65 : Int) ≤ (s[k].toNat : Int) := by unfold cap at hc; simp at hc; omega
            have q2 : (s[k].toNat : Int) ≤ 90 := by unfold cap at hc; simp at hc; omega
            go_wp2_with (go_at_call 60; refine (value_any _ h256 _).mono ?_; rintro e w' ⟨rfl, rfl⟩)
            go_round
            case rel => exact ⟨k + 1, _, by omega, by go_num, by go_num, F.out⟩
            case measure => simp [intOf]; omega
        · have F := Lib.hid (restK_dig hr.out hd)
          have hv : val (byt s k) = (byt s k : Int) - 48 := by unfold val; rw [if_pos (by simp [hd])]
          rw [hb] at hd h256 F hv
          have HB := Lib.hid hb; clear hb
          have q1 : (48 : Int) ≤ (s[k].toNat : Int) := by unfold dig at hd; simp at hd; omega
          have q2 : (s[k].toNat : Int) ≤ 57 := by unfold dig at hd; simp at hd; omega
          go_wp2_with (go_at_call 60; refine (value_any _ h256 _).mono ?_; rintro e w' ⟨rfl, rfl⟩)
          go_round
          case rel => exact ⟨k + 1, _, by omega, by go_num, by go_num, F.out⟩
          case measure => simp [intOf]; omega
      · obtain rfl : k = s.size := by omega
        have F := Lib.hid (F0.out.2 _ hr.out)
        go_wp2
        go_ret2
        exact ⟨congrArg Ending.returned F.out, rfl⟩
end Go.Proofs.YtfcalpfpfibbfaaDoor
