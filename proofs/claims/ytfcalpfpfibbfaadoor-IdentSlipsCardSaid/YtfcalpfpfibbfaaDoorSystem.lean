/- money.Code and System of both, walked. -/
import Derived.Test.YtfcalpfpfibbfaaDoorMakes
namespace Go.Proofs.YtfcalpfpfibbfaaDoor
open Go.RowKit

/-- Three capitals. -/
def cod (s : ByteArray) : Bool := allB cap s s.size && ((s.size : Int) == 3)

set_option maxRecDepth 100000 in
set_option maxHeartbeats 1000000 in
theorem code_any (s : ByteArray) (w : World) (hs : s.size ≤ 9223372036854775800) : Calls Tryd.prog 33 #[.string s] w fun e w' => e = .returned (.bool (cod s)) ∧ w' = w := by
  have F0 := Lib.hid (show (allB cap s s.size = false → Value.bool false = .bool (cod s)) ∧ (allB cap s s.size = true → Value.bool ((s.size : Int) == 3) = .bool (cod s)) from
    ⟨fun h => by unfold cod; rw [h]; rfl, fun h => by unfold cod; rw [h]; rfl⟩)
  generalize Value.bool (cod s) = V at *
  go_enter Tryd.func33, Tryd.ntmps33
  go_wp2
  go_loop [6] (fun i => ∃ k : Nat, k ≤ s.size ∧ i = .int .i64 k ∧ Hid (allB cap s k = true)) (fun i => s.size - (intOf i).toNat)
  case atStart => exact ⟨0, Nat.zero_le _, rfl, rfl⟩
  case round =>
    obtain ⟨k, hk, rfl, hall⟩ := hrel
    by_cases hlt : k < s.size
    · have hb : byt s k = s[k].toNat := by unfold byt; rw [dif_pos hlt]
      cases hc : cap (byt s k)
      · have F := Lib.hid (F0.out.1 (allB_false hlt hc))
        rw [hb] at hc
        have HB := Lib.hid hb; clear hb
        have hr2 : (s[k].toNat : Int) < 65 ∨ (90 : Int) < (s[k].toNat : Int) := by unfold cap at hc; simp at hc; omega
        clear hc
        rcases hr2 with hr2 | hr2
        · go_wp2
          go_ret
          exact ⟨congrArg Ending.returned F.out, rfl⟩
        · have hr3 : ¬ (s[k].toNat : Int) < 65 := by omega
          go_wp2
          go_ret
          exact ⟨congrArg Ending.returned F.out, rfl⟩
      · have F := Lib.hid (show allB cap s (k + 1) = true by unfold allB; rw [hall.out, hc]; rfl)
        rw [hb] at hc
        have HB := Lib.hid hb; clear hb
        have q1 : (65 : Int) ≤ (s[k].toNat : Int) := by unfold cap at hc; simp at hc; omega
        have q2 : (s[k].toNat : Int) ≤ 90 := by unfold cap at hc; simp at hc; omega
        clear hc
        go_wp2
        go_round
        case rel => exact ⟨k + 1, by omega, by go_num, F.out⟩
        case measure => simp [intOf]; omega
    · obtain rfl : k = s.size := by omega
      have F := Lib.hid (F0.out.2 hall.out)
      go_wp2
      go_ret
      exact ⟨congrArg Ending.returned F.out, rfl⟩

set_option maxRecDepth 100000 in
set_option maxHeartbeats 1000000 in
theorem refCode_any (s : ByteArray) (w : World) (_ : s.size ≤ 9223372036854775800) : Calls Tryd.prog 34 #[.string s] w fun e w' => e = .returned (.bool (cod s)) ∧ w' = w := by
  cases h3 : ((s.size : Int) == 3)
  · have e : cod s = false := by unfold cod; rw [h3, Bool.and_false]
    rw [e]; clear e
    have h3q : ((s.size : Int) != 3) = true := by unfold bne; rw [h3]; rfl
    go_enter Tryd.func34, Tryd.ntmps34
    go_wp2
    go_ret
    exact ⟨rfl, rfl⟩
  · have h3q : ((s.size : Int) != 3) = false := by unfold bne; rw [h3]; rfl
    have s3 : s.size = 3 := by have := beq_iff_eq.1 h3; omega
    have F0 := Lib.hid (show ∀ b, allB cap s s.size = b → Value.bool b = .bool (cod s) from fun b h => by unfold cod; rw [h, h3, Bool.and_true])
    have H3 := Lib.hid h3; clear h3
    generalize Value.bool (cod s) = V at *
    go_enter Tryd.func34, Tryd.ntmps34
    go_wp2
    go_loop [3] (fun i => ∃ k : Nat, k ≤ 3 ∧ i = .int .i64 k ∧ Hid (allB cap s k = true)) (fun i => 3 - (intOf i).toNat)
    case atStart => exact ⟨0, Nat.zero_le _, rfl, rfl⟩
    case round =>
      obtain ⟨k, hk, rfl, hall⟩ := hrel
      by_cases hlt3 : k < 3
      · have hlt : k < s.size := by omega
        have hb : byt s k = s[k].toNat := by unfold byt; rw [dif_pos hlt]
        cases hc : cap (byt s k)
        · have F := Lib.hid (F0.out _ (allB_false hlt hc))
          rw [hb] at hc
          have HB := Lib.hid hb; clear hb
          have hr2 : (s[k].toNat : Int) < 65 ∨ (90 : Int) < (s[k].toNat : Int) := by unfold cap at hc; simp at hc; omega
          clear hc
          rcases hr2 with hr2 | hr2
          · go_wp2
            go_ret
            exact ⟨congrArg Ending.returned F.out, rfl⟩
          · have hr3 : ¬ (s[k].toNat : Int) < 65 := by omega
            go_wp2
            go_ret
            exact ⟨congrArg Ending.returned F.out, rfl⟩
        · have F := Lib.hid (show allB cap s (k + 1) = true by unfold allB; rw [hall.out, hc]; rfl)
          rw [hb] at hc
          have HB := Lib.hid hb; clear hb
          have q1 : (65 : Int) ≤ (s[k].toNat : Int) := by unfold cap at hc; simp at hc; omega
          have q2 : (s[k].toNat : Int) ≤ 90 := by unfold cap at hc; simp at hc; omega
          clear hc
          go_wp2
          go_round
          case rel => exact ⟨k + 1, by omega, by go_num, F.out⟩
          case measure => simp [intOf]; omega
      · obtain rfl : k = 3 := by omega
        have F := Lib.hid (F0.out true (by rw [s3]; exact hall.out))
        go_wp2
        go_ret
        exact ⟨congrArg Ending.returned F.out, rfl⟩

def pre (k : Int) : Option ByteArray := if k = 2 then some { data := #[111, 117, 116, 115, 105, 100, 101, 46] } else if k = 3 then some { data := #[115, 117, 115, 112, 101, 110, 115, 101, 46] }
  else if k = 4 then some { data := #[99, 108, 101, 97, 114, 105, 110, 103, 46] } else if k = 5 then some { data := #[102, 101, 101, 115, 46] } else none
/-- The system account of a kind and a code; none: the empty string. -/
def sys (k : Int) (s : ByteArray) : ByteArray := if cod s then (match pre k with | some p => p ++ s | none => ⟨#[]⟩) else ⟨#[]⟩
theorem cod_size {s : ByteArray} (h : cod s = true) : s.size = 3 := by
  unfold cod at h
  simp only [Bool.and_eq_true, beq_iff_eq] at h
  omega

set_option maxRecDepth 100000 in
set_option maxHeartbeats 1000000 in
theorem system_any (k : Int) (s : ByteArray) (w : World) (hs : s.size ≤ 9223372036854775800) : Calls Tryd.prog 13 #[.int .i64 k, .string s] w fun e w' => e = .returned (.string (sys k s)) ∧ w' = w := by
  have a1 := fun w => code_any s w hs
  cases h : cod s
  · have e : sys k s = ⟨#[]⟩ := by unfold sys; rw [h]; rfl
    rw [e]; clear e
    rw [h] at a1
    go_enter Tryd.func13, Tryd.ntmps13
    go_wp2_with (go_at_call 33; refine (a1 _).mono ?_; rintro e w' ⟨rfl, rfl⟩)
    go_ret
    exact ⟨rfl, rfl⟩
  · rw [h] at a1
    have s3 := cod_size h
    have e : sys k s = (match pre k with | some p => p ++ s | none => ⟨#[]⟩) := by unfold sys; rw [h]; rfl
    rw [e]; clear e
    unfold pre
    by_cases k2 : k = 2
    · subst k2
      go_enter Tryd.func13, Tryd.ntmps13
      go_wp2_with (go_at_call 33; refine (a1 _).mono ?_; rintro e w' ⟨rfl, rfl⟩)
      go_ret
      exact ⟨rfl, rfl⟩
    · by_cases k3 : k = 3
      · subst k3
        go_enter Tryd.func13, Tryd.ntmps13
        go_wp2_with (go_at_call 33; refine (a1 _).mono ?_; rintro e w' ⟨rfl, rfl⟩)
        go_ret
        exact ⟨rfl, rfl⟩
      · by_cases k4 : k = 4
        · subst k4
          go_enter Tryd.func13, Tryd.ntmps13
          go_wp2_with (go_at_call 33; refine (a1 _).mono ?_; rintro e w' ⟨rfl, rfl⟩)
          go_ret
          exact ⟨rfl, rfl⟩
        · by_cases k5 : k = 5
          · subst k5
            go_enter Tryd.func13, Tryd.ntmps13
            go_wp2_with (go_at_call 33; refine (a1 _).mono ?_; rintro e w' ⟨rfl, rfl⟩)
            go_ret
            exact ⟨rfl, rfl⟩
          · rw [if_neg k2, if_neg k3, if_neg k4, if_neg k5]
            simp only
            go_enter Tryd.func13, Tryd.ntmps13
            go_wp2_with (go_at_call 33; refine (a1 _).mono ?_; rintro e w' ⟨rfl, rfl⟩)
            go_ret
            exact ⟨rfl, rfl⟩
set_option maxRecDepth 100000 in
set_option maxHeartbeats 1000000 in
theorem refSystem_any (k : Int) (s : ByteArray) (w : World) (hs : s.size ≤ 9223372036854775800) : Calls Tryd.prog 14 #[.int .i64 k, .string s] w fun e w' => e = .returned (.string (sys k s)) ∧ w' = w := by
  have a1 := fun w => refCode_any s w hs
  cases h : cod s
  · have e : sys k s = ⟨#[]⟩ := by unfold sys; rw [h]; rfl
    rw [e]; clear e
    rw [h] at a1
    go_enter Tryd.func14, Tryd.ntmps14
    go_wp2_with (go_at_call 34; refine (a1 _).mono ?_; rintro e w' ⟨rfl, rfl⟩)
    go_ret
    exact ⟨rfl, rfl⟩
  · rw [h] at a1
    have s3 := cod_size h
    have e : sys k s = (match pre k with | some p => p ++ s | none => ⟨#[]⟩) := by unfold sys; rw [h]; rfl
    rw [e]; clear e
    unfold pre
    by_cases k2 : k = 2
    · subst k2
      go_enter Tryd.func14, Tryd.ntmps14
      go_wp2_with (go_at_call 34; refine (a1 _).mono ?_; rintro e w' ⟨rfl, rfl⟩)
      go_ret
      exact ⟨rfl, rfl⟩
    · by_cases k3 : k = 3
      · subst k3
        go_enter Tryd.func14, Tryd.ntmps14
        go_wp2_with (go_at_call 34; refine (a1 _).mono ?_; rintro e w' ⟨rfl, rfl⟩)
        go_ret
        exact ⟨rfl, rfl⟩
      · by_cases k4 : k = 4
        · subst k4
          go_enter Tryd.func14, Tryd.ntmps14
          go_wp2_with (go_at_call 34; refine (a1 _).mono ?_; rintro e w' ⟨rfl, rfl⟩)
          go_ret
          exact ⟨rfl, rfl⟩
        · by_cases k5 : k = 5
          · subst k5
            go_enter Tryd.func14, Tryd.ntmps14
            go_wp2_with (go_at_call 34; refine (a1 _).mono ?_; rintro e w' ⟨rfl, rfl⟩)
            go_ret
            exact ⟨rfl, rfl⟩
          · rw [if_neg k2, if_neg k3, if_neg k4, if_neg k5]
            simp only
            go_enter Tryd.func14, Tryd.ntmps14
            go_wp2_with (go_at_call 34; refine (a1 _).mono ?_; rintro e w' ⟨rfl, rfl⟩)
            go_ret
            exact ⟨rfl, rfl⟩
end Go.Proofs.YtfcalpfpfibbfaaDoor
