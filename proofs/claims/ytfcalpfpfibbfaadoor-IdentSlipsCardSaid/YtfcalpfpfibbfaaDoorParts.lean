/- ident.parts, the reference's all, money.Code both: walked. -/
import Derived.Test.YtfcalpfpfibbfaaDoorDigits
namespace Go.Proofs.YtfcalpfpfibbfaaDoor
open Go.RowKit


set_option maxRecDepth 100000 in
set_option maxHeartbeats 1000000 in
theorem refAll_cap (s : ByteArray) (w : World) (hs : s.size ≤ 9223372036854775800) : Calls Tryd.prog 30 #[.string s, .bool true, .bool false] w fun e w' => e = .returned (.bool (allB cap s s.size)) ∧ w' = w := by
  have F0 := Lib.hid (show ∀ b, allB cap s s.size = b → Value.bool b = .bool (allB cap s s.size) by intro b h; rw [h])
  generalize Value.bool (allB cap s s.size) = V at *
  go_enter Tryd.func30, Tryd.ntmps30
  go_wp2
  go_loop [7, 8] (fun i _ => ∃ k : Nat, k ≤ s.size ∧ i = .int .i64 k ∧ Hid (allB cap s k = true)) (fun i _ => s.size - (intOf i).toNat)
  case atStart => exact ⟨0, Nat.zero_le _, rfl, rfl⟩
  case round =>
    obtain ⟨k, hk, rfl, hall⟩ := hrel
    by_cases hlt : k < s.size
    · have hb : byt s k = s[k].toNat := by unfold byt; rw [dif_pos hlt]
      cases hc : cap (byt s k) <;> cases hd : dig (byt s k)
      all_goals
        have hp := hc
        first
        | (have F := Lib.hid (F0.out _ (allB_false hlt hp))
           rw [hb] at hc hd
           have HB := Lib.hid hb; clear hb hp
           go_wp2_with (first | (go_at_call 40; refine (rcapital_any _ _).mono ?_; rintro e w' ⟨rfl, rfl⟩) | (go_at_call 41; refine (rdigit_any _ _).mono ?_; rintro e w' ⟨rfl, rfl⟩))
           go_ret
           exact ⟨congrArg Ending.returned F.out, rfl⟩)
        | (have F := Lib.hid (show allB cap s (k + 1) = true by unfold allB; rw [hall.out, hp]; rfl)
           rw [hb] at hc hd
           have HB := Lib.hid hb; clear hb hp
           go_wp2_with (first | (go_at_call 40; refine (rcapital_any _ _).mono ?_; rintro e w' ⟨rfl, rfl⟩) | (go_at_call 41; refine (rdigit_any _ _).mono ?_; rintro e w' ⟨rfl, rfl⟩))
           go_round
           case rel => exact ⟨k + 1, by omega, by go_num, F.out⟩
           case measure => simp [intOf]; omega)
    · obtain rfl : k = s.size := by omega
      have F := Lib.hid (F0.out _ hall.out)
      go_wp2
      go_ret
      exact ⟨congrArg Ending.returned F.out, rfl⟩

set_option maxRecDepth 100000 in
set_option maxHeartbeats 1000000 in
theorem refAll_alnum (s : ByteArray) (w : World) (hs : s.size ≤ 9223372036854775800) : Calls Tryd.prog 30 #[.string s, .bool true, .bool true] w fun e w' => e = .returned (.bool (allB alnum s s.size)) ∧ w' = w := by
  have F0 := Lib.hid (show ∀ b, allB alnum s s.size = b → Value.bool b = .bool (allB alnum s s.size) by intro b h; rw [h])
  generalize Value.bool (allB alnum s s.size) = V at *
  go_enter Tryd.func30, Tryd.ntmps30
  go_wp2
  go_loop [7, 8] (fun i _ => ∃ k : Nat, k ≤ s.size ∧ i = .int .i64 k ∧ Hid (allB alnum s k = true)) (fun i _ => s.size - (intOf i).toNat)
  case atStart => exact ⟨0, Nat.zero_le _, rfl, rfl⟩
  case round =>
    obtain ⟨k, hk, rfl, hall⟩ := hrel
    by_cases hlt : k < s.size
    · have hb : byt s k = s[k].toNat := by unfold byt; rw [dif_pos hlt]
      cases hc : cap (byt s k) <;> cases hd : dig (byt s k)
      all_goals
        have hp : alnum (byt s k) = (cap (byt s k) || dig (byt s k)) := rfl
        rw [hc, hd] at hp
        first
        | (have F := Lib.hid (F0.out _ (allB_false hlt hp))
           rw [hb] at hc hd
           have HB := Lib.hid hb; clear hb hp
           go_wp2_with (first | (go_at_call 40; refine (rcapital_any _ _).mono ?_; rintro e w' ⟨rfl, rfl⟩) | (go_at_call 41; refine (rdigit_any _ _).mono ?_; rintro e w' ⟨rfl, rfl⟩))
           go_ret
           exact ⟨congrArg Ending.returned F.out, rfl⟩)
        | (have F := Lib.hid (show allB alnum s (k + 1) = true by unfold allB; rw [hall.out, hp]; rfl)
           rw [hb] at hc hd
           have HB := Lib.hid hb; clear hb hp
           go_wp2_with (first | (go_at_call 40; refine (rcapital_any _ _).mono ?_; rintro e w' ⟨rfl, rfl⟩) | (go_at_call 41; refine (rdigit_any _ _).mono ?_; rintro e w' ⟨rfl, rfl⟩))
           go_round
           case rel => exact ⟨k + 1, by omega, by go_num, F.out⟩
           case measure => simp [intOf]; omega)
    · obtain rfl : k = s.size := by omega
      have F := Lib.hid (F0.out _ hall.out)
      go_wp2
      go_ret
      exact ⟨congrArg Ending.returned F.out, rfl⟩

end Go.Proofs.YtfcalpfpfibbfaaDoor
