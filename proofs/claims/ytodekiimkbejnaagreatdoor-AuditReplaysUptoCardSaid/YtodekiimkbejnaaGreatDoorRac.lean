/- remitref16.account: walked. -/
import Derived.Test.YtodekiimkbejnaaGreatDoorRid
namespace Go.Proofs.YtodekiimkbejnaaGreatDoor
open Go.RowKit

theorem last3_size (s : ByteArray) : (last3 s).size ≤ s.size := by unfold last3; rw [ByteArray.size_extract]; omega
def sysB (s t : ByteArray) (k : Nat) : Bool := s.toList == (sys (k : Int) t).toList

set_option maxRecDepth 100000 in
set_option maxHeartbeats 2000000 in
theorem refAcc_any (s : ByteArray) (w : World) (hs : s.size ≤ 9223372036854770000) : Calls Tryz.prog 21 #[.string s] w fun e w' => e = .returned (.bool (acFit s)) ∧ Below w.heap.size w w' := by
  have a1 := refCheck_any s w hs
  have HR := Lib.hid (show acFit s = (decide (chk s = 0) || (decide (4 ≤ s.size) && cod (last3 s) && (sysB s (last3 s) 2 || sysB s (last3 s) 3 || sysB s (last3 s) 4 || sysB s (last3 s) 5))) from (racFit_eq s).symm)
  generalize acFit s = ok at *
  cases h0 : ((chk s : Int) == 0) with
  | true =>
    obtain rfl : ok = true := by rw [HR.out, decide_eq_true (by have := beq_iff_eq.1 h0; omega)]; rfl
    clear HR
    generalize (chk s : Int) = n at *
    go_enter Tryz.func21, Tryz.ntmps21
    go_wp2_with fail
    refine a1.mono ?_
    rintro e w' ⟨rfl, hb⟩
    go_wp2
    go_ret
    exact ⟨rfl, hb⟩
  | false =>
    have HR2 := Lib.hid (show ok = (decide (4 ≤ s.size) && cod (last3 s) && (sysB s (last3 s) 2 || sysB s (last3 s) 3 || sysB s (last3 s) 4 || sysB s (last3 s) 5)) by
      rw [HR.out, decide_eq_false (by have := beq_eq_false_iff_ne.1 h0; omega), Bool.false_or])
    clear HR
    generalize (chk s : Int) = n at *
    cases h4 : decide ((s.size : Int) < 4) with
    | true =>
      obtain rfl : ok = false := by rw [HR2.out, decide_eq_false (by have := of_decide_eq_true h4; omega)]; rfl
      clear HR2
      go_enter Tryz.func21, Tryz.ntmps21
      go_wp2_with fail
      refine a1.mono ?_
      rintro e w' ⟨rfl, hb⟩
      go_wp2
      go_ret
      exact ⟨rfl, hb⟩
    | false =>
      have h4' : (4 : Int) ≤ (s.size : Int) := by have := of_decide_eq_false h4; omega
      have h4q : 4 ≤ s.size := by omega
      have HR3 := Lib.hid (show ok = (cod (last3 s) && (sysB s (last3 s) 2 || sysB s (last3 s) 3 || sysB s (last3 s) 4 || sysB s (last3 s) 5)) by
        rw [HR2.out, decide_eq_true h4q, Bool.true_and])
      have hls := last3_size s
      have a2 := fun w => refCode_any (last3 s) w (by omega)
      have a3 := fun k w => refSystem_any k (last3 s) w (by omega)
      have HT := Lib.hid (show s.extract (s.size - 3) s.size = last3 s from rfl)
      generalize last3 s = t at *
      clear HR2 h4
      cases hc : cod t with
      | false =>
        obtain rfl : ok = false := by rw [HR3.out, hc, Bool.false_and]
        rw [hc] at a2
        clear HR3 hc a3
        go_enter Tryz.func21, Tryz.ntmps21
        go_wp2_with fail
        refine a1.mono ?_
        rintro e w' ⟨rfl, hb⟩
        go_wp2_with fail
        rw [HT.out]
        have HB := Lib.hid hb; clear hb
        go_loopw [4] (fun vi wr => ∃ k : Nat, vi = .int .i64 k ∧ 2 ≤ k ∧ k ≤ 6 ∧ Hid (Below w.heap.size w wr)) (fun vi _ => 6 - (intOf vi).toNat)
        case atStart => exact ⟨2, rfl, by omega, by omega, HB⟩
        case round =>
          obtain ⟨k, rfl, hk, hk2, hh⟩ := hrel
          by_cases h : k ≤ 5
          · go_wp2_with fail
            refine (a2 _).mono ?_
            rintro e w' ⟨rfl, rfl⟩
            go_wp2
            go_roundw
            case rel => exact ⟨k + 1, by go_num, by omega, by omega, hh⟩
            case measure => simp [intOf]; omega
          · obtain rfl : k = 6 := by omega
            go_wp2
            go_ret
            exact ⟨rfl, hh.out⟩
      | true =>
        have HR4 := Lib.hid (show ok = (sysB s t 2 || sysB s t 3 || sysB s t 4 || sysB s t 5) by rw [HR3.out, hc, Bool.true_and])
        rw [hc] at a2
        clear HR3 hc
        go_enter Tryz.func21, Tryz.ntmps21
        go_wp2_with fail
        refine a1.mono ?_
        rintro e w' ⟨rfl, hb⟩
        go_wp2_with fail
        rw [HT.out]
        have HB := Lib.hid hb; clear hb
        go_loopw [4] (fun vi wr => ∃ k : Nat, vi = .int .i64 k ∧ 2 ≤ k ∧ k ≤ 6 ∧ Hid (Below w.heap.size w wr ∧ ∀ j, 2 ≤ j → j < k → sysB s t j = false)) (fun vi _ => 6 - (intOf vi).toNat)
        case atStart => exact ⟨2, rfl, by omega, by omega, Lib.hid ⟨HB.out, fun j h1 h2 => by omega⟩⟩
        case round =>
          obtain ⟨k, rfl, hk, hk2, hh⟩ := hrel
          by_cases h : k ≤ 5
          · cases hq : sysB s t k with
            | true =>
              have HV := Lib.hid (show ok = true by
                rw [HR4.out]
                rcases (show k = 2 ∨ k = 3 ∨ k = 4 ∨ k = 5 by omega) with rfl | rfl | rfl | rfl <;> rw [hq] <;> simp)
              have HW := Lib.hid hh.out.1
              have hq2 : (s.toList == (sys (k : Int) t).toList) = true := hq
              clear hq hh
              go_wp2_with fail
              refine (a2 _).mono ?_
              rintro e w' ⟨rfl, rfl⟩
              go_wp2_with fail
              refine (a3 _ _).mono ?_
              rintro e w' ⟨rfl, rfl⟩
              generalize sys (k : Int) t = y at *
              go_wp2
              go_ret
              exact ⟨by rw [HV.out]; rfl, HW.out⟩
            | false =>
              have HW := Lib.hid (show Below w.heap.size w wr ∧ ∀ j, 2 ≤ j → j < k + 1 → sysB s t j = false from ⟨hh.out.1, fun j h1 h2 => by
                by_cases e : j = k
                · subst e; exact hq
                · exact hh.out.2 j h1 (by omega)⟩)
              have hq2 : (s.toList == (sys (k : Int) t).toList) = false := hq
              clear hq hh
              go_wp2_with fail
              refine (a2 _).mono ?_
              rintro e w' ⟨rfl, rfl⟩
              go_wp2_with fail
              refine (a3 _ _).mono ?_
              rintro e w' ⟨rfl, rfl⟩
              generalize sys (k : Int) t = y at *
              go_wp2
              go_roundw
              case rel => exact ⟨k + 1, by go_num, by omega, by omega, HW⟩
              case measure => simp [intOf]; omega
          · obtain rfl : k = 6 := by omega
            have HV := Lib.hid (show ok = false by
              rw [HR4.out, hh.out.2 2 (by omega) (by omega), hh.out.2 3 (by omega) (by omega), hh.out.2 4 (by omega) (by omega), hh.out.2 5 (by omega) (by omega)]; rfl)
            have HW := Lib.hid hh.out.1
            clear hh
            go_wp2
            go_ret
            exact ⟨by rw [HV.out]; rfl, HW.out⟩
end Go.Proofs.YtodekiimkbejnaaGreatDoor
