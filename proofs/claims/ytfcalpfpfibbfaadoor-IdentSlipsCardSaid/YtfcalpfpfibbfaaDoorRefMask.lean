/- The reference's Mask and Id: walked. -/
import Derived.Test.YtfcalpfpfibbfaaDoorMask
namespace Go.Proofs.YtfcalpfpfibbfaaDoor
open Go.RowKit

theorem mskL_star {s : ByteArray} {k : Nat} (h : s.size ≤ 8 ∨ (4 ≤ k ∧ k < s.size - 4)) : mskL s (k + 1) = mskL s k ++ [42] := by
  show mskL s k ++ [mskB s k] = _
  unfold mskB; rw [if_neg (by omega)]
theorem mskL_keep {s : ByteArray} {k : Nat} (h8 : 8 < s.size) (h : k < 4 ∨ s.size - 4 ≤ k) : mskL s (k + 1) = mskL s k ++ [(byt s k : Int)] := by
  show mskL s k ++ [mskB s k] = _
  unfold mskB; rw [if_pos ⟨h8, h⟩]

set_option maxRecDepth 100000 in
set_option maxHeartbeats 1000000 in
theorem refMask_any (s : ByteArray) (w : World) (hs : s.size ≤ 140737488355328) : Calls Tryd.prog 20 #[.string s] w fun e w' => e = .returned (.string (mskS s)) ∧ Below w.heap.size w w' := by
  have HV := Lib.hid (show Value.string (mskS s) = .string (strOfNums (mskL s s.size)) from rfl)
  generalize Value.string (mskS s) = V at *
  go_enter Tryd.func20, Tryd.ntmps20
  go_wp2
  go_loopw [3, 4] (fun v i wr => ∃ k : Nat, k ≤ s.size ∧ i = .int .i64 k ∧ Hid (ownsB wr w.heap.size 5 v (mskL s k)) ∧ Hid (Below w.heap.size w wr)) (fun _ i _ => s.size - (intOf i).toNat)
  case atStart => exact ⟨0, Nat.zero_le _, rfl, World.ownsRow_made w #[] 0 (Nat.le_refl _) (by decide) rfl, (Below.refl _ _).alloc (Nat.le_refl _) _⟩
  case round =>
    obtain ⟨k, hk, rfl, hown, hb⟩ := hrel
    have hsz := hb.out.size
    have hle := mskL_length s k
    by_cases hlt : k < s.size
    · have hbyt : byt s k = s[k].toNat := by unfold byt; rw [dif_pos hlt]
      have hu8 := byt_lt s k
      cases t1 : decide ((8 : Int) < (s.size : Int)) with
      | false =>
        have F := Lib.hid (mskL_star (s := s) (k := k) (.inl (by have := of_decide_eq_false t1; omega)))
        have HB := Lib.hid hbyt; clear hbyt
        go_wp2_with (first | (at_builtin; refine append_byte rfl _ _ 35 rfl w.heap.size 5 Tryd.underlying35 info5 _ _ rfl hown.out _ rfl ?c1 hsz ?_))
        case c1 => omega
        intro v' w' ho hbw
        have hb2 := hb.out.trans hbw
        go_wp2
        go_roundw
        case rel => exact ⟨k + 1, by omega, by go_num, by rw [F.out]; exact ho, hb2⟩
        case measure => simp [intOf]; omega
      | true =>
        have g8 : 8 < s.size := by have := of_decide_eq_true t1; omega
        cases t2 : decide ((k : Int) < 4) with
        | true =>
          have F := Lib.hid (mskL_keep (k := k) g8 (.inl (by have := of_decide_eq_true t2; omega)))
          rw [hbyt] at F
          have HB := Lib.hid hbyt; clear hbyt
          go_wp2_with (first | (at_builtin; refine append_byte rfl _ _ 35 rfl w.heap.size 5 Tryd.underlying35 info5 _ _ rfl hown.out _ rfl ?c1 hsz ?_))
          case c1 => omega
          intro v' w' ho hbw
          have hb2 := hb.out.trans hbw
          go_wp2
          go_roundw
          case rel => exact ⟨k + 1, by omega, by go_num, by rw [F.out]; exact ho, hb2⟩
          case measure => simp [intOf]; omega
        | false =>
          cases t3 : decide ((s.size : Int) - 4 ≤ (k : Int)) with
          | true =>
            have F := Lib.hid (mskL_keep (k := k) g8 (.inr (by have := of_decide_eq_true t3; omega)))
            rw [hbyt] at F
            have HB := Lib.hid hbyt; clear hbyt
            go_wp2_with (first | (at_builtin; refine append_byte rfl _ _ 35 rfl w.heap.size 5 Tryd.underlying35 info5 _ _ rfl hown.out _ rfl ?c1 hsz ?_))
            case c1 => omega
            intro v' w' ho hbw
            have hb2 := hb.out.trans hbw
            go_wp2
            go_roundw
            case rel => exact ⟨k + 1, by omega, by go_num, by rw [F.out]; exact ho, hb2⟩
            case measure => simp [intOf]; omega
          | false =>
            have F := Lib.hid (mskL_star (s := s) (k := k) (.inr (by have := of_decide_eq_false t2; have := of_decide_eq_false t3; omega)))
            have HB := Lib.hid hbyt; clear hbyt
            go_wp2_with (first | (at_builtin; refine append_byte rfl _ _ 35 rfl w.heap.size 5 Tryd.underlying35 info5 _ _ rfl hown.out _ rfl ?c1 hsz ?_))
            case c1 => omega
            intro v' w' ho hbw
            have hb2 := hb.out.trans hbw
            go_wp2
            go_roundw
            case rel => exact ⟨k + 1, by omega, by go_num, by rw [F.out]; exact ho, hb2⟩
            case measure => simp [intOf]; omega
    · obtain rfl : k = s.size := by omega
      have k1 := convert_own (P := Tryd.prog) (src := 35) (dst := 9) hown.out Tryd.underlying35 Tryd.underlying5 Tryd.underlying9
      go_wp2
      go_ret
      exact ⟨congrArg Ending.returned HV.out.symm, hb.out⟩

/-- The number of Id's error. -/
def idE (s : ByteArray) : Nat := if idOk s then 0 else 26
theorem idV_ev (B : Nat → Addr) (s : ByteArray) : idV B s = ev B (idE s) := by
  unfold idV idE
  cases idOk s <;> rfl

set_option maxRecDepth 100000 in
set_option maxHeartbeats 2000000 in
theorem refId_any (s : ByteArray) (w : World) (hs : s.size ≤ 9223372036854775800) : Calls Tryd.prog 22 #[.string s] w fun e w' => e = .returned (.int .i64 (idE s)) ∧ w' = w := by
  have HV := Lib.hid (show ∀ b, idOk s = b → Value.int .i64 (idE s) = .int .i64 (if b then 0 else 26) from fun b h => by unfold idE; rw [h]; cases b <;> rfl)
  generalize Value.int .i64 (idE s) = V at *
  cases t1 : decide ((s.size : Int) < 1) with
  | true =>
    have F := Lib.hid (HV.out false (by unfold idOk; rw [t1]; simp))
    go_enter Tryd.func22, Tryd.ntmps22
    go_wp2
    go_ret
    exact ⟨congrArg Ending.returned F.out.symm, rfl⟩
  | false =>
    cases t2 : decide ((32 : Int) < (s.size : Int)) with
    | true =>
      have F := Lib.hid (HV.out false (by unfold idOk; rw [t2]; simp))
      go_enter Tryd.func22, Tryd.ntmps22
      go_wp2
      go_ret
      exact ⟨congrArg Ending.returned F.out.symm, rfl⟩
    | false =>
      have HW := Lib.hid (show ∀ b, allB idb s s.size = b → V = .int .i64 (if b then 0 else 26) from fun b h => HV.out b (by unfold idOk; rw [h, t1, t2]; simp))
      clear HV
      go_enter Tryd.func22, Tryd.ntmps22
      go_wp2
      go_loop [3, 4, 5] (fun i _ _ => ∃ k : Nat, k ≤ s.size ∧ i = .int .i64 k ∧ Hid (allB idb s k = true)) (fun i _ _ => s.size - (intOf i).toNat)
      case atStart => exact ⟨0, Nat.zero_le _, rfl, rfl⟩
      case round =>
        obtain ⟨k, hk, rfl, hall⟩ := hrel
        by_cases hlt : k < s.size
        · have hb : byt s k = s[k].toNat := by unfold byt; rw [dif_pos hlt]
          cases hc : cap (s[k].toNat) with
          | true =>
            have e : idb (byt s k) = true := by rw [hb]; unfold idb; rw [hc]; simp
            have F := Lib.hid (show allB idb s (k + 1) = true by unfold allB; rw [hall.out, e]; rfl)
            have HB := Lib.hid hb; clear hb
            clear e
            go_wp2_with (first | (go_at_call 40; refine (rcapital_any _ _).mono ?_; rintro e w' ⟨rfl, rfl⟩) | (go_at_call 41; refine (rdigit_any _ _).mono ?_; rintro e w' ⟨rfl, rfl⟩))
            go_round
            case rel => exact ⟨k + 1, by omega, by go_num, F.out⟩
            case measure => simp [intOf]; omega
          | false =>
            cases hd : dig (s[k].toNat) with
            | true =>
              have e : idb (byt s k) = true := by rw [hb]; unfold idb; rw [hc, hd]; simp
              have F := Lib.hid (show allB idb s (k + 1) = true by unfold allB; rw [hall.out, e]; rfl)
              have HB := Lib.hid hb; clear hb
              clear e
              go_wp2_with (first | (go_at_call 40; refine (rcapital_any _ _).mono ?_; rintro e w' ⟨rfl, rfl⟩) | (go_at_call 41; refine (rdigit_any _ _).mono ?_; rintro e w' ⟨rfl, rfl⟩))
              go_round
              case rel => exact ⟨k + 1, by omega, by go_num, F.out⟩
              case measure => simp [intOf]; omega
            | false =>
              cases h1 : decide ((97 : Int) ≤ (s[k].toNat : Int)) with
              | true =>
                have h1' := of_decide_eq_true h1
                cases h2 : decide ((s[k].toNat : Int) ≤ 122) with
                | true =>
                  have e : idb (byt s k) = true := by rw [hb]; unfold idb; rw [hc, hd, h1, h2]; simp
                  have F := Lib.hid (show allB idb s (k + 1) = true by unfold allB; rw [hall.out, e]; rfl)
                  have HB := Lib.hid hb; clear hb
                  clear e
                  go_wp2_with (first | (go_at_call 40; refine (rcapital_any _ _).mono ?_; rintro e w' ⟨rfl, rfl⟩) | (go_at_call 41; refine (rdigit_any _ _).mono ?_; rintro e w' ⟨rfl, rfl⟩))
                  go_round
                  case rel => exact ⟨k + 1, by omega, by go_num, F.out⟩
                  case measure => simp [intOf]; omega
                | false =>
                  have h2' := of_decide_eq_false h2
                  have e46 : ((s[k].toNat : Int) == 46) = false := by simp; omega
                  have e95 : ((s[k].toNat : Int) == 95) = false := by simp; omega
                  have e45 : ((s[k].toNat : Int) == 45) = false := by simp; omega
                  clear h2'
                  have e : idb (byt s k) = false := by rw [hb]; unfold idb; rw [hc, hd, h1, h2, e46, e95, e45]; rfl
                  have F := Lib.hid (HW.out false (allB_false hlt e))
                  have HB := Lib.hid hb; clear hb
                  clear e
                  go_wp2_with (first | (go_at_call 40; refine (rcapital_any _ _).mono ?_; rintro e w' ⟨rfl, rfl⟩) | (go_at_call 41; refine (rdigit_any _ _).mono ?_; rintro e w' ⟨rfl, rfl⟩))
                  go_ret
                  exact ⟨congrArg Ending.returned F.out.symm, rfl⟩
              | false =>
                cases h46 : ((s[k].toNat : Int) == 46) with
                | true =>
                  have e : idb (byt s k) = true := by rw [hb]; unfold idb; rw [hc, hd, h1, h46]; simp
                  have F := Lib.hid (show allB idb s (k + 1) = true by unfold allB; rw [hall.out, e]; rfl)
                  have HB := Lib.hid hb; clear hb
                  clear e
                  go_wp2_with (first | (go_at_call 40; refine (rcapital_any _ _).mono ?_; rintro e w' ⟨rfl, rfl⟩) | (go_at_call 41; refine (rdigit_any _ _).mono ?_; rintro e w' ⟨rfl, rfl⟩))
                  go_round
                  case rel => exact ⟨k + 1, by omega, by go_num, F.out⟩
                  case measure => simp [intOf]; omega
                | false =>
                  cases h95 : ((s[k].toNat : Int) == 95) with
                  | true =>
                    have e : idb (byt s k) = true := by rw [hb]; unfold idb; rw [hc, hd, h1, h46, h95]; simp
                    have F := Lib.hid (show allB idb s (k + 1) = true by unfold allB; rw [hall.out, e]; rfl)
                    have HB := Lib.hid hb; clear hb
                    clear e
                    go_wp2_with (first | (go_at_call 40; refine (rcapital_any _ _).mono ?_; rintro e w' ⟨rfl, rfl⟩) | (go_at_call 41; refine (rdigit_any _ _).mono ?_; rintro e w' ⟨rfl, rfl⟩))
                    go_round
                    case rel => exact ⟨k + 1, by omega, by go_num, F.out⟩
                    case measure => simp [intOf]; omega
                  | false =>
                    cases h45 : ((s[k].toNat : Int) == 45) with
                    | true =>
                      have e : idb (byt s k) = true := by rw [hb]; unfold idb; rw [hc, hd, h1, h46, h95, h45]; simp
                      have F := Lib.hid (show allB idb s (k + 1) = true by unfold allB; rw [hall.out, e]; rfl)
                      have HB := Lib.hid hb; clear hb
                      clear e
                      go_wp2_with (first | (go_at_call 40; refine (rcapital_any _ _).mono ?_; rintro e w' ⟨rfl, rfl⟩) | (go_at_call 41; refine (rdigit_any _ _).mono ?_; rintro e w' ⟨rfl, rfl⟩))
                      go_round
                      case rel => exact ⟨k + 1, by omega, by go_num, F.out⟩
                      case measure => simp [intOf]; omega
                    | false =>
                      have e : idb (byt s k) = false := by rw [hb]; unfold idb; rw [hc, hd, h1, h46, h95, h45]; simp
                      have F := Lib.hid (HW.out false (allB_false hlt e))
                      have HB := Lib.hid hb; clear hb
                      clear e
                      go_wp2_with (first | (go_at_call 40; refine (rcapital_any _ _).mono ?_; rintro e w' ⟨rfl, rfl⟩) | (go_at_call 41; refine (rdigit_any _ _).mono ?_; rintro e w' ⟨rfl, rfl⟩))
                      go_ret
                      exact ⟨congrArg Ending.returned F.out.symm, rfl⟩
        · obtain rfl : k = s.size := by omega
          have F := Lib.hid (HW.out true hall.out)
          go_wp2
          go_ret
          exact ⟨congrArg Ending.returned F.out.symm, rfl⟩
end Go.Proofs.YtfcalpfpfibbfaaDoor
