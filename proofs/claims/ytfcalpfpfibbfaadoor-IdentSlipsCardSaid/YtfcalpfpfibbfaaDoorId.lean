/- ident.Id and lives, walked. -/
import Derived.Test.YtfcalpfpfibbfaaDoorSystem
namespace Go.Proofs.YtfcalpfpfibbfaaDoor
open Go.RowKit

def idb (n : Nat) : Bool := cap n || dig n || (decide ((97 : Int) ≤ (n : Int)) && decide ((n : Int) ≤ 122)) || ((n : Int) == 46) || ((n : Int) == 95) || ((n : Int) == 45)

set_option maxRecDepth 100000 in
theorem id1_any (n : Nat) (w : World) : Calls Tryd.prog 38 #[.int .u8 n] w fun e w' => e = .returned (.bool (idb n)) ∧ w' = w := by
  unfold idb
  cases hc : cap n
  · cases hd : dig n
    · rcases (show (n : Int) < 97 ∨ (97 : Int) ≤ (n : Int) by omega) with h1 | h1
      · have e : (false || false || (decide ((97 : Int) ≤ (n : Int)) && decide ((n : Int) ≤ 122)) || ((n : Int) == 46) || ((n : Int) == 95) || ((n : Int) == 45)) = (((n : Int) == 46) || ((n : Int) == 95) || ((n : Int) == 45)) := by
          rw [show decide ((97 : Int) ≤ (n : Int)) = false from decide_eq_false (by omega)]; simp
        rw [e]; clear e
        cases h4 : ((n : Int) == 46)
        · cases h5 : ((n : Int) == 95)
          · cases h6 : ((n : Int) == 45)
            · go_enter Tryd.func38, Tryd.ntmps38
              go_wp2_with (first | (go_at_call 39; refine (capital_any _ _).mono ?_; rintro e w' ⟨rfl, rfl⟩) | (go_at_call 36; refine (digit_any _ _).mono ?_; rintro e w' ⟨rfl, rfl⟩))
              go_ret
              exact ⟨rfl, rfl⟩
            · go_enter Tryd.func38, Tryd.ntmps38
              go_wp2_with (first | (go_at_call 39; refine (capital_any _ _).mono ?_; rintro e w' ⟨rfl, rfl⟩) | (go_at_call 36; refine (digit_any _ _).mono ?_; rintro e w' ⟨rfl, rfl⟩))
              go_ret
              exact ⟨rfl, rfl⟩
          · go_enter Tryd.func38, Tryd.ntmps38
            go_wp2_with (first | (go_at_call 39; refine (capital_any _ _).mono ?_; rintro e w' ⟨rfl, rfl⟩) | (go_at_call 36; refine (digit_any _ _).mono ?_; rintro e w' ⟨rfl, rfl⟩))
            go_ret
            exact ⟨rfl, rfl⟩
        · go_enter Tryd.func38, Tryd.ntmps38
          go_wp2_with (first | (go_at_call 39; refine (capital_any _ _).mono ?_; rintro e w' ⟨rfl, rfl⟩) | (go_at_call 36; refine (digit_any _ _).mono ?_; rintro e w' ⟨rfl, rfl⟩))
          go_ret
          exact ⟨rfl, rfl⟩
      · rcases (show (n : Int) ≤ 122 ∨ (122 : Int) < (n : Int) by omega) with h2 | h2
        · rw [show decide ((97 : Int) ≤ (n : Int)) = true from decide_eq_true h1, show decide ((n : Int) ≤ 122) = true from decide_eq_true h2]
          simp only [Bool.false_or, Bool.and_true, Bool.true_or]
          go_enter Tryd.func38, Tryd.ntmps38
          go_wp2_with (first | (go_at_call 39; refine (capital_any _ _).mono ?_; rintro e w' ⟨rfl, rfl⟩) | (go_at_call 36; refine (digit_any _ _).mono ?_; rintro e w' ⟨rfl, rfl⟩))
          go_ret
          exact ⟨rfl, rfl⟩
        · have h3 : ¬ (n : Int) ≤ 122 := by omega
          rw [show decide ((97 : Int) ≤ (n : Int)) = true from decide_eq_true h1]
          simp only [Bool.false_or, Bool.true_and]
          clear h2 h3
          go_enter Tryd.func38, Tryd.ntmps38
          go_wp2_with (first | (go_at_call 39; refine (capital_any _ _).mono ?_; rintro e w' ⟨rfl, rfl⟩) | (go_at_call 36; refine (digit_any _ _).mono ?_; rintro e w' ⟨rfl, rfl⟩))
          all_goals
            go_ret
            exact ⟨rfl, rfl⟩
    · go_enter Tryd.func38, Tryd.ntmps38
      go_wp2_with (first | (go_at_call 39; refine (capital_any _ _).mono ?_; rintro e w' ⟨rfl, rfl⟩) | (go_at_call 36; refine (digit_any _ _).mono ?_; rintro e w' ⟨rfl, rfl⟩))
      go_ret
      exact ⟨rfl, rfl⟩
  · go_enter Tryd.func38, Tryd.ntmps38
    go_wp2_with (first | (go_at_call 39; refine (capital_any _ _).mono ?_; rintro e w' ⟨rfl, rfl⟩) | (go_at_call 36; refine (digit_any _ _).mono ?_; rintro e w' ⟨rfl, rfl⟩))
    go_ret
    exact ⟨rfl, rfl⟩

theorem all_id (s : ByteArray) (w : World) (hs : s.size ≤ 9223372036854775800) : Calls Tryd.prog 35 #[.string s, .func (.func 38) #[] #[]] w fun e w' => e = .returned (.bool (allB idb s s.size)) ∧ w' = w := by
  go_enter Tryd.func35, Tryd.ntmps35
  go_wp2
  go_loop [8] (fun i => ∃ k : Nat, k ≤ s.size ∧ i = .int .i64 k ∧ allB idb s k = true) (fun i => s.size - (intOf i).toNat)
  case atStart => exact ⟨0, Nat.zero_le _, rfl, rfl⟩
  case round =>
    obtain ⟨k, hk, rfl, hall⟩ := hrel
    by_cases hlt : k < s.size
    · have hb : byt s k = s[k].toNat := by unfold byt; rw [dif_pos hlt]
      cases hp : idb (byt s k)
      · have F := Lib.hid (allB_false hlt hp)
        rw [hb] at hp
        have HB := Lib.hid hb; clear hb
        have HL := Lib.hid hall; clear hall
        go_wp2_with (go_at_call 38; refine (id1_any _ _).mono ?_; rintro e w' ⟨rfl, rfl⟩)
        go_ret
        exact ⟨by rw [F.out]; rfl, rfl⟩
      · have F := Lib.hid (show allB idb s (k + 1) = true by unfold allB; rw [hall, hp]; rfl)
        rw [hb] at hp
        have HB := Lib.hid hb; clear hb
        have HL := Lib.hid hall; clear hall
        go_wp2_with (go_at_call 38; refine (id1_any _ _).mono ?_; rintro e w' ⟨rfl, rfl⟩)
        go_round
        case rel => exact ⟨k + 1, by omega, by go_num, F.out⟩
        case measure => simp [intOf]; omega
    · obtain rfl : k = s.size := by omega
      have HL := Lib.hid hall; clear hall
      go_wp2
      go_ret
      exact ⟨by rw [HL.out]; rfl, rfl⟩
end Go.Proofs.YtfcalpfpfibbfaaDoor
