/- ident.Check and the reference's Check: walked. -/
import Derived.Test.YtfcalpfpfibbfaaDoorLives
import Derived.Deep.RegionWith
import Derived.StillTailTactics
namespace Go.Proofs.YtfcalpfpfibbfaaDoor
open Go.RowKit

/-- The number of Check's error: 0, ErrForm (7), ErrDigits (8). -/
def chk (s : ByteArray) : Nat :=
  if s.size < 4 then 7 else if prt (s.extract 0 2) (s.extract 4 s.size) = false then 7 else if allB dig (s.extract 2 4) (s.extract 2 4).size = false then 7
  else match digO (s.extract 4 s.size ++ s.extract 0 2) with
    | some d => if d.toList == (s.extract 2 4).toList then 0 else 8
    | none => 8

theorem ext_size (s : ByteArray) (a b : Nat) (h : b ≤ s.size) : (s.extract a b).size = b - a := by
  rw [ByteArray.size_extract, Nat.min_eq_left h]

/-- A frame that began behind draws. -/
theorem EnvN.same {w w1 : World} {n : Nat} (h : Below (w.drewN n).heap.size (w.drewN n) w1) : Below w.heap.size w w1 := ⟨h.os, h.tape, h.output, h.size, h.block⟩

set_option maxRecDepth 100000 in
set_option maxHeartbeats 1000000 in
theorem check_any (B : Nat → Addr) (s : ByteArray) (w : World) (hE : Env3 w B) (hs : s.size ≤ 9223372036854770000) :
    Calls Tryd.prog 15 #[.string s] w fun e w' => e = .returned (ev B (chk s)) ∧ Below w.heap.size w w' := by
  have c0 := hE.cell 0 (by decide)
  have c3 := hE.cell 3 (by decide)
  cases h4 : decide ((s.size : Int) < 4) with
  | true =>
    have e : ev B (chk s) = .iface 105 (.pointer (some (B 0))) := by unfold chk; rw [if_pos (by have := of_decide_eq_true h4; omega)]; rfl
    rw [e]; clear e
    have HE := Lib.hid hE; clear hE
    go_enter Tryd.func15, Tryd.ntmps15
    go_wp2
    go_quiet (fail)
    go_wp2
    go_ret
    exact ⟨rfl, below_drewN (Below.refl _ _) _⟩
  | false =>
    have h4' : (4 : Int) ≤ (s.size : Int) := by simpa using h4
    have z1 := ext_size s 0 2 (by omega)
    have z2 := ext_size s 2 4 (by omega)
    have z3 := ext_size s 4 s.size (by omega)
    have a1 := fun w => parts_any (s.extract 0 2) (s.extract 4 s.size) w (by omega) (by omega)
    have a2 := fun w => all_digit (s.extract 2 4) w (by omega)
    cases h1 : prt (s.extract 0 2) (s.extract 4 s.size)
    · have e : ev B (chk s) = .iface 105 (.pointer (some (B 0))) := by unfold chk; rw [if_neg (by omega), if_pos h1]; rfl
      rw [e]; clear e
      rw [h1] at a1
      have HE := Lib.hid hE; clear hE
      go_enter Tryd.func15, Tryd.ntmps15
      go_wp2
      go_quiet ((go_at_call 28; exact Calls.quiet_of_same (a1 _)))
      go_wp2
      go_ret
      exact ⟨rfl, below_drewN (Below.refl _ _) _⟩
    · cases h2 : allB dig (s.extract 2 4) (s.extract 2 4).size
      · have e : ev B (chk s) = .iface 105 (.pointer (some (B 0))) := by unfold chk; rw [if_neg (by omega), if_neg (by rw [h1]; decide), if_pos h2]; rfl
        rw [e]; clear e
        rw [h1] at a1
        rw [h2] at a2
        have HE := Lib.hid hE; clear hE
        go_enter Tryd.func15, Tryd.ntmps15
        go_wp2
        go_quiet ((first | (go_at_call 28; exact Calls.quiet_of_same (a1 _)) | (go_at_call 35; exact Calls.quiet_of_same (a2 _))))
        go_wp2
        go_ret
        exact ⟨rfl, below_drewN (Below.refl _ _) _⟩
      · obtain ⟨d, hd, s4⟩ := prt_dig h1
        have e0 : ev B (chk s) = ev B (if d.toList == (s.extract 2 4).toList then 0 else 8) := by unfold chk; rw [if_neg (by omega), if_neg (by rw [h1]; decide), if_neg (by rw [h2]; decide), hd]
        rw [h1] at a1
        rw [h2] at a2
        have a3 := fun w hE => digits_any B (s.extract 4 s.size ++ s.extract 0 2) w hE (by rw [ByteArray.size_append]; omega)
        unfold digV at a3
        rw [hd] at a3
        simp only at a3
        have a4 := Lib.hid (fun n => a3 (w.drewN n) (hE.below (below_drewN (Below.refl _ _) n))); clear a3
        have HD := Lib.hid hd; clear hd
        have HE := Lib.hid hE; clear hE
        cases h3 : d.toList == (s.extract 2 4).toList
        · rw [h3] at e0
          have e : ev B (chk s) = .iface 105 (.pointer (some (B 3))) := e0
          rw [e]; clear e e0
          go_enter Tryd.func15, Tryd.ntmps15
          go_wp2
          go_quiet ((first | (go_at_call 28; exact Calls.quiet_of_same (a1 _)) | (go_at_call 35; exact Calls.quiet_of_same (a2 _))))
          go_wp2_with fail
          go_region_with (go_at_call 29; refine (a4.out _).mono ?_; rintro e w1 ⟨rfl, hbw⟩)
          have hbw := EnvN.same hbw
          have c3' := (HE.out.below hbw).cell 3 (by decide)
          go_wp2
          go_ret
          exact ⟨rfl, hbw⟩
        · rw [h3] at e0
          have e : ev B (chk s) = .nilIface := e0
          rw [e]; clear e e0
          go_enter Tryd.func15, Tryd.ntmps15
          go_wp2
          go_quiet ((first | (go_at_call 28; exact Calls.quiet_of_same (a1 _)) | (go_at_call 35; exact Calls.quiet_of_same (a2 _))))
          go_wp2_with fail
          go_region_with (go_at_call 29; refine (a4.out _).mono ?_; rintro e w1 ⟨rfl, hbw⟩)
          have hbw := EnvN.same hbw
          have c3' := (HE.out.below hbw).cell 3 (by decide)
          go_wp2
          go_ret
          exact ⟨rfl, hbw⟩

set_option maxRecDepth 100000 in
set_option maxHeartbeats 1000000 in
theorem refAll_dig (s : ByteArray) (w : World) (_ : s.size ≤ 9223372036854775800) : Calls Tryd.prog 30 #[.string s, .bool false, .bool true] w fun e w' => e = .returned (.bool (allB dig s s.size)) ∧ w' = w := by
  have F0 := Lib.hid (show ∀ b, allB dig s s.size = b → Value.bool b = .bool (allB dig s s.size) by intro b h; rw [h])
  generalize Value.bool (allB dig s s.size) = V at *
  go_enter Tryd.func30, Tryd.ntmps30
  go_wp2
  go_loop [7, 8] (fun i _ => ∃ k : Nat, k ≤ s.size ∧ i = .int .i64 k ∧ Hid (allB dig s k = true)) (fun i _ => s.size - (intOf i).toNat)
  case atStart => exact ⟨0, Nat.zero_le _, rfl, rfl⟩
  case round =>
    obtain ⟨k, hk, rfl, hall⟩ := hrel
    by_cases hlt : k < s.size
    · have hb : byt s k = s[k].toNat := by unfold byt; rw [dif_pos hlt]
      cases hp : dig (byt s k)
      · have F := Lib.hid (F0.out _ (allB_false hlt hp))
        rw [hb] at hp
        have HB := Lib.hid hb; clear hb
        go_wp2_with (go_at_call 41; refine (rdigit_any _ _).mono ?_; rintro e w' ⟨rfl, rfl⟩)
        go_ret
        exact ⟨congrArg Ending.returned F.out, rfl⟩
      · have F := Lib.hid (show allB dig s (k + 1) = true by unfold allB; rw [hall.out, hp]; rfl)
        rw [hb] at hp
        have HB := Lib.hid hb; clear hb
        go_wp2_with (go_at_call 41; refine (rdigit_any _ _).mono ?_; rintro e w' ⟨rfl, rfl⟩)
        go_round
        case rel => exact ⟨k + 1, by omega, by go_num, F.out⟩
        case measure => simp [intOf]; omega
    · obtain rfl : k = s.size := by omega
      have F := Lib.hid (F0.out _ hall.out)
      go_wp2
      go_ret
      exact ⟨congrArg Ending.returned F.out, rfl⟩

theorem prt_iff {s : ByteArray} (h : 4 ≤ s.size) : prt (s.extract 0 2) (s.extract 4 s.size) = (allB cap (s.extract 0 2) (s.extract 0 2).size && decide (5 ≤ s.size) && decide (s.size ≤ 34) && allB alnum (s.extract 4 s.size) (s.extract 4 s.size).size) := by
  have z1 := ext_size s 0 2 (by omega)
  have z3 := ext_size s 4 s.size (by omega)
  unfold prt
  rw [show (((s.extract 0 2).size : Int) == 2) = true by simp; omega, Bool.true_and, show decide ((1 : Int) ≤ ((s.extract 4 s.size).size : Int)) = decide (5 ≤ s.size) from decide_eq_decide.2 (by omega),
    show decide (((s.extract 4 s.size).size : Int) ≤ 30) = decide (s.size ≤ 34) from decide_eq_decide.2 (by omega)]

theorem chk_bad {s : ByteArray} (h : s.size < 5 ∨ 34 < s.size ∨ allB cap (s.extract 0 2) (s.extract 0 2).size = false ∨ allB dig (s.extract 2 4) (s.extract 2 4).size = false ∨ allB alnum (s.extract 4 s.size) (s.extract 4 s.size).size = false) : chk s = 7 := by
  unfold chk
  split
  · rfl
  · rename_i h4
    split
    · rfl
    · rename_i hp
      rw [prt_iff (by omega)] at hp
      simp only [Bool.not_eq_false, Bool.and_eq_true, decide_eq_true_eq] at hp
      split
      · rfl
      · rename_i hd
        rcases h with h | h | h | h | h
        · omega
        · omega
        · rw [h] at hp; exact absurd hp.1.1.1 (by decide)
        · exact absurd h hd
        · rw [h] at hp; exact absurd hp.2 (by decide)
theorem chk_good {s : ByteArray} (h5 : 5 ≤ s.size) (h34 : s.size ≤ 34) (h1 : allB cap (s.extract 0 2) (s.extract 0 2).size = true) (h2 : allB dig (s.extract 2 4) (s.extract 2 4).size = true) (h3 : allB alnum (s.extract 4 s.size) (s.extract 4 s.size).size = true) :
    ∃ d, digO (s.extract 4 s.size ++ s.extract 0 2) = some d ∧ d.size = 2 ∧ chk s = if d.toList == (s.extract 2 4).toList then 0 else 8 := by
  have hp : prt (s.extract 0 2) (s.extract 4 s.size) = true := by
    rw [prt_iff (by omega), h1, h3, decide_eq_true h5, decide_eq_true h34]; rfl
  obtain ⟨d, hd, s4⟩ := prt_dig hp
  exact ⟨d, hd, s4, by unfold chk; rw [if_neg (by omega), if_neg (by rw [hp]; decide), if_neg (by rw [h2]; decide), hd]⟩

set_option maxRecDepth 100000 in
set_option maxHeartbeats 1000000 in
theorem refCheck_any (s : ByteArray) (w : World) (hs : s.size ≤ 9223372036854770000) :
    Calls Tryd.prog 18 #[.string s] w fun e w' => e = .returned (.int .i64 (chk s)) ∧ Below w.heap.size w w' := by
  cases h5 : decide ((s.size : Int) < 5) with
  | true =>
    have e : chk s = 7 := chk_bad (.inl (by have := of_decide_eq_true h5; omega))
    rw [e]; clear e
    go_enter Tryd.func18, Tryd.ntmps18
    go_wp2
    go_ret
    exact ⟨rfl, Below.refl _ _⟩
  | false =>
    have h5' : (5 : Int) ≤ (s.size : Int) := by simpa using h5
    cases h34 : decide ((34 : Int) < (s.size : Int)) with
    | true =>
      have e : chk s = 7 := chk_bad (.inr (.inl (by have := of_decide_eq_true h34; omega)))
      rw [e]; clear e
      go_enter Tryd.func18, Tryd.ntmps18
      go_wp2
      go_ret
      exact ⟨rfl, Below.refl _ _⟩
    | false =>
      have h34' : (s.size : Int) ≤ 34 := by simpa using h34
      have z1 := ext_size s 0 2 (by omega)
      have z2 := ext_size s 2 4 (by omega)
      have z3 := ext_size s 4 s.size (by omega)
      have a1 := fun w => refAll_cap (s.extract 0 2) w (by omega)
      have a2 := fun w => refAll_dig (s.extract 2 4) w (by omega)
      have a5 := fun w => refAll_alnum (s.extract 4 s.size) w (by omega)
      cases h1 : allB cap (s.extract 0 2) (s.extract 0 2).size
      · have e : chk s = 7 := chk_bad (.inr (.inr (.inl h1)))
        rw [e]; clear e
        rw [h1] at a1
        go_enter Tryd.func18, Tryd.ntmps18
        go_wp2_with fail
        refine (a1 _).mono ?_
        rintro e w' ⟨rfl, rfl⟩
        go_wp2
        go_ret
        exact ⟨rfl, Below.refl _ _⟩
      · cases h2 : allB dig (s.extract 2 4) (s.extract 2 4).size
        · have e : chk s = 7 := chk_bad (.inr (.inr (.inr (.inl h2))))
          rw [e]; clear e
          rw [h1] at a1
          rw [h2] at a2
          go_enter Tryd.func18, Tryd.ntmps18
          go_wp2_with fail
          refine (a1 _).mono ?_
          rintro e w' ⟨rfl, rfl⟩
          go_wp2_with fail
          refine (a2 _).mono ?_
          rintro e w' ⟨rfl, rfl⟩
          go_wp2
          go_ret
          exact ⟨rfl, Below.refl _ _⟩
        · cases h3 : allB alnum (s.extract 4 s.size) (s.extract 4 s.size).size
          · have e : chk s = 7 := chk_bad (.inr (.inr (.inr (.inr h3))))
            rw [e]; clear e
            rw [h1] at a1
            rw [h2] at a2
            rw [h3] at a5
            go_enter Tryd.func18, Tryd.ntmps18
            go_wp2_with fail
            refine (a1 _).mono ?_
            rintro e w' ⟨rfl, rfl⟩
            go_wp2_with fail
            refine (a2 _).mono ?_
            rintro e w' ⟨rfl, rfl⟩
            go_wp2_with fail
            refine (a5 _).mono ?_
            rintro e w' ⟨rfl, rfl⟩
            go_wp2
            go_ret
            exact ⟨rfl, Below.refl _ _⟩
          · obtain ⟨d, hd, s4, e0⟩ := chk_good (by omega) (by omega) h1 h2 h3
            rw [h1] at a1
            rw [h2] at a2
            rw [h3] at a5
            have a3 := fun w => refDigits_any (s.extract 4 s.size ++ s.extract 0 2) w (by rw [ByteArray.size_append]; omega)
            unfold refDigV at a3
            rw [hd] at a3
            simp only at a3
            have a4 := Lib.hid (fun n => a3 (w.drewN n))
            have HD := Lib.hid hd; clear hd
            cases h6 : d.toList == (s.extract 2 4).toList
            · rw [h6] at e0
              have e : chk s = 8 := e0
              rw [e]; clear e e0
              go_enter Tryd.func18, Tryd.ntmps18
              go_wp2_with fail
              refine (a1 _).mono ?_
              rintro e w' ⟨rfl, rfl⟩
              go_wp2_with fail
              refine (a2 _).mono ?_
              rintro e w' ⟨rfl, rfl⟩
              go_wp2_with fail
              refine (a5 _).mono ?_
              rintro e w' ⟨rfl, rfl⟩
              go_wp2_with fail
              go_region_with (go_at_call 31; refine (a4.out _).mono ?_; rintro e w1 ⟨rfl, hbw⟩)
              all_goals
                have hbw := EnvN.same hbw
                go_wp2
                go_ret
                exact ⟨rfl, hbw⟩
            · rw [h6] at e0
              have e : chk s = 0 := e0
              rw [e]; clear e e0
              go_enter Tryd.func18, Tryd.ntmps18
              go_wp2_with fail
              refine (a1 _).mono ?_
              rintro e w' ⟨rfl, rfl⟩
              go_wp2_with fail
              refine (a2 _).mono ?_
              rintro e w' ⟨rfl, rfl⟩
              go_wp2_with fail
              refine (a5 _).mono ?_
              rintro e w' ⟨rfl, rfl⟩
              go_wp2_with fail
              go_region_with (go_at_call 31; refine (a4.out _).mono ?_; rintro e w1 ⟨rfl, hbw⟩)
              all_goals
                have hbw := EnvN.same hbw
                go_wp2
                go_ret
                exact ⟨rfl, hbw⟩
end Go.Proofs.YtfcalpfpfibbfaaDoor
