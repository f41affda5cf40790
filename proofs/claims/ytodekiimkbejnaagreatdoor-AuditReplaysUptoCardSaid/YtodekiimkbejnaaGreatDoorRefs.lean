/- The references of layers 3 to 5: walked (turned from the ident seat). -/
import Derived.Test.YtodekiimkbejnaaGreatDoorIdent
import Derived.Deep.RegionWith
import Derived.Laws.BytesArg
import Derived.StillTailTactics
namespace Go.Proofs.YtodekiimkbejnaaGreatDoor
open Go.RowKit

def val (n : Nat) : Int := if dig n then (n : Int) - 48 else if cap n then (n : Int) - 65 + 10 else -1

theorem value_any (n : Nat) (hn : n < 256) (w : World) : Calls Tryz.prog 101 #[.int .u8 n] w fun e w' => e = .returned (.int .i64 (val n)) ∧ w' = w := by
  cases hd : dig n
  · cases hc : cap n
    · have e : val n = -1 := by unfold val; rw [if_neg (by simp [hd]), if_neg (by simp [hc])]
      rw [e]; clear e
      have h2 : (n : Int) < 65 ∨ (90 : Int) < (n : Int) := by unfold cap at hc; simp at hc; omega
      have h1 : (n : Int) < 48 ∨ (57 : Int) < (n : Int) := by unfold dig at hd; simp at hd; omega
      clear hd hc
      rcases h1 with h1 | h1 <;> rcases h2 with h2 | h2
      all_goals first | omega | (
        go_enter Tryz.func101, Tryz.ntmps101
        go_wp2
        go_ret
        exact ⟨rfl, rfl⟩)
    · have e : val n = (n : Int) - 65 + 10 := by unfold val; rw [if_neg (by simp [hd]), if_pos (by simp [hc])]
      rw [e]; clear e
      have h1 : (65 : Int) ≤ (n : Int) := by unfold cap at hc; simp at hc; omega
      have h2 : (n : Int) ≤ 90 := by unfold cap at hc; simp at hc; omega
      clear hd hc
      go_enter Tryz.func101, Tryz.ntmps101
      go_wp2
      go_ret
      exact ⟨rfl, rfl⟩
  · have e : val n = (n : Int) - 48 := by unfold val; rw [if_pos (by simp [hd])]
    rw [e]; clear e
    have h1 : (48 : Int) ≤ (n : Int) := by unfold dig at hd; simp at hd; omega
    have h2 : (n : Int) ≤ 57 := by unfold dig at hd; simp at hd; omega
    clear hd
    go_enter Tryz.func101, Tryz.ntmps101
    go_wp2
    go_ret
    exact ⟨rfl, rfl⟩

def okR (r : Int) : Value := .tuple #[.int .i64 r, .int .i64 0]
def badR : Value := .tuple #[.int .i64 0, .int .i64 7]
def refRestV (s : ByteArray) : Value := match restO s with
  | some r => okR r
  | none => badR
theorem refRestV_none {s : ByteArray} (h : restO s = none) : badR = refRestV s := by unfold refRestV; rw [h]
theorem refRestV_some {s : ByteArray} {r : Nat} (h : restO s = some r) : okR r = refRestV s := by unfold refRestV; rw [h]

set_option maxRecDepth 100000 in
set_option maxHeartbeats 1000000 in
theorem refRest_any (s : ByteArray) (w : World) (hs : s.size ≤ 9223372036854775800) :
    Calls Tryz.prog 92 #[.string s] w fun e w' => e = .returned (refRestV s) ∧ w' = w := by
  by_cases h0 : s.size = 0
  · have F := Lib.hid (refRestV_none (show restO s = none by unfold restO; rw [if_pos h0]))
    generalize refRestV s = V at *
    have h0' : (s.size : Int) = 0 := by omega
    go_enter Tryz.func92, Tryz.ntmps92
    go_wp2
    go_ret2
    exact ⟨congrArg Ending.returned F.out, rfl⟩
  · have F0 := Lib.hid (show (restK s s.size = none → badR = refRestV s) ∧ ∀ r, restK s s.size = some r → okR r = refRestV s from
      ⟨fun h => refRestV_none (by unfold restO; rw [if_neg h0]; exact h), fun r h => refRestV_some (by unfold restO; rw [if_neg h0]; exact h)⟩)
    have hz : ((s.size : Int) == 0) = false := beq_eq_false_iff_ne.2 (by omega)
    have H0 := Lib.hid h0; clear h0
    generalize refRestV s = V at *
    go_enter Tryz.func92, Tryz.ntmps92
    go_wp2
    go_loop [4, 5] (fun t i => ∃ k r : Nat, k ≤ s.size ∧ i = .int .i64 k ∧ t = .int .i64 r ∧ Hid (restK s k = some r)) (fun _ i => s.size - (intOf i).toNat)
    case atStart => exact ⟨0, 0, Nat.zero_le _, rfl, rfl, rfl⟩
    case round =>
      obtain ⟨k, r, hk, rfl, rfl, hr⟩ := hrel
      have r97 : (r : Int) ≤ 96 := by have := restK_lt hr.out; omega
      by_cases hlt : k < s.size
      · have hb : byt s k = s[k].toNat := by unfold byt; rw [dif_pos hlt]
        have h256 := byt_lt s k
        cases hd : dig (byt s k)
        · cases hc : cap (byt s k)
          · have F := Lib.hid (F0.out.1 (restK_bad hd hc s.size hlt))
            have hv : val (byt s k) = -1 := by unfold val; rw [if_neg (by simp [hd]), if_neg (by simp [hc])]
            rw [hb] at hv h256
            have HB := Lib.hid hb; clear hb
            go_wp2_with (go_at_call 101; refine (value_any _ h256 _).mono ?_; rintro e w' ⟨rfl, rfl⟩)
            go_ret2
            exact ⟨congrArg Ending.returned F.out, rfl⟩
          · have F := Lib.hid (restK_cap hr.out hd hc)
            have hv : val (byt s k) = (byt s k : Int) - 65 + 10 := by unfold val; rw [if_neg (by simp [hd]), if_pos (by simp [hc])]
            rw [hb] at hc h256 F hv
            have HB := Lib.hid hb; clear hb
            have q1 : (65 : Int) ≤ (s[k].toNat : Int) := by unfold cap at hc; simp at hc; omega
            have q2 : (s[k].toNat : Int) ≤ 90 := by unfold cap at hc; simp at hc; omega
            go_wp2_with (go_at_call 101; refine (value_any _ h256 _).mono ?_; rintro e w' ⟨rfl, rfl⟩)
            go_round
            case rel => exact ⟨k + 1, _, by omega, by go_num, by go_num, F.out⟩
            case measure => simp [intOf]; omega
        · have F := Lib.hid (restK_dig hr.out hd)
          have hv : val (byt s k) = (byt s k : Int) - 48 := by unfold val; rw [if_pos (by simp [hd])]
          rw [hb] at hd h256 F hv
          have HB := Lib.hid hb; clear hb
          have q1 : (48 : Int) ≤ (s[k].toNat : Int) := by unfold dig at hd; simp at hd; omega
          have q2 : (s[k].toNat : Int) ≤ 57 := by unfold dig at hd; simp at hd; omega
          go_wp2_with (go_at_call 101; refine (value_any _ h256 _).mono ?_; rintro e w' ⟨rfl, rfl⟩)
          go_round
          case rel => exact ⟨k + 1, _, by omega, by go_num, by go_num, F.out⟩
          case measure => simp [intOf]; omega
      · obtain rfl : k = s.size := by omega
        have F := Lib.hid (F0.out.2 _ hr.out)
        go_wp2
        go_ret2
        exact ⟨congrArg Ending.returned F.out, rfl⟩
def refDigV (s : ByteArray) : Value := match digO s with
  | some c => .tuple #[.string c, .int .i64 0]
  | none => .tuple #[.string ⟨#[]⟩, .int .i64 7]
theorem refDigV_none {s : ByteArray} (h : digO s = none) : .tuple #[.string ⟨#[]⟩, .int .i64 7] = refDigV s := by unfold refDigV; rw [h]
theorem refDigV_some {s : ByteArray} {c : ByteArray} (h : digO s = some c) : .tuple #[.string c, .int .i64 0] = refDigV s := by unfold refDigV; rw [h]

set_option maxRecDepth 100000 in
set_option maxHeartbeats 1000000 in
theorem refDigits_any (s : ByteArray) (w : World) (hs : s.size ≤ 9223372036854775000) :
    Calls Tryz.prog 71 #[.string s] w fun e w' => e = .returned (refDigV s) ∧ Below w.heap.size w w' := by
  have hr0 := fun w => refRest_any s w (by omega)
  have hz : zz s = s ++ { data := #[48, 48] } := rfl
  have hr := fun w => refRest_any (zz s) w (by rw [zz_size]; omega)
  unfold refRestV at hr0 hr
  cases ho : restO s with
  | none =>
    have F := Lib.hid (refDigV_none (s := s) (by
      unfold digO; split
      · rfl
      · rw [restO_zz_none (by assumption) ho]; rfl))
    generalize refDigV s = V at *
    rw [ho] at hr0
    simp only [badR] at hr0
    clear hr
    go_enter Tryz.func71, Tryz.ntmps71
    go_wp2_with (go_at_call 92; refine (hr0 _).mono ?_; rintro e w' ⟨rfl, rfl⟩)
    go_ret2
    exact ⟨congrArg Ending.returned F.out, Below.refl _ _⟩
  | some r0 =>
    obtain ⟨r, ho2⟩ := restO_zz_some ho
    have F := Lib.hid (refDigV_some (s := s) (c := cdig r) (by
      unfold digO; split
      · rename_i h0; unfold restO at ho; rw [if_pos h0] at ho; cases ho
      · rw [ho2]; rfl))
    generalize refDigV s = V at *
    have hr97 := restO_lt ho2
    rw [ho] at hr0
    rw [ho2] at hr
    simp only [okR] at hr0 hr
    have hc2 := conv2
    go_enter Tryz.func71, Tryz.ntmps71
    rw [hz] at hr
    go_wp2_with fail
    refine (hr0 _).mono ?_
    rintro e w' ⟨rfl, rfl⟩
    go_wp2_with fail
    refine (hr _).mono ?_
    rintro e w' ⟨rfl, rfl⟩
    go_wp2_with fail
    go_ret2
    exact ⟨congrArg Ending.returned F.out, (Below.refl _ _).alloc (Nat.le_refl _) _⟩
theorem rcapital_any (n : Nat) (w : World) : Calls Tryz.prog 68 #[.int .u8 n] w fun e w' => e = .returned (.bool (cap n)) ∧ w' = w := by
  by_cases h1 : (65 : Int) ≤ (n : Int)
  · by_cases h2 : (n : Int) ≤ 90
    · have e : cap n = true := by unfold cap; simp; omega
      rw [e]; clear e
      go_enter Tryz.func68, Tryz.ntmps68
      go_wp2
      go_ret
      exact ⟨rfl, rfl⟩
    · have e : cap n = false := by unfold cap; simp; omega
      rw [e]; clear e
      go_enter Tryz.func68, Tryz.ntmps68
      go_wp2
      go_ret
      exact ⟨rfl, rfl⟩
  · have e : cap n = false := by unfold cap; simp; omega
    rw [e]; clear e
    go_enter Tryz.func68, Tryz.ntmps68
    go_wp2
    go_ret
    exact ⟨rfl, rfl⟩

theorem rdigit_any (n : Nat) (w : World) : Calls Tryz.prog 69 #[.int .u8 n] w fun e w' => e = .returned (.bool (dig n)) ∧ w' = w := by
  by_cases h1 : (48 : Int) ≤ (n : Int)
  · by_cases h2 : (n : Int) ≤ 57
    · have e : dig n = true := by unfold dig; simp; omega
      rw [e]; clear e
      go_enter Tryz.func69, Tryz.ntmps69
      go_wp2
      go_ret
      exact ⟨rfl, rfl⟩
    · have e : dig n = false := by unfold dig; simp; omega
      rw [e]; clear e
      go_enter Tryz.func69, Tryz.ntmps69
      go_wp2
      go_ret
      exact ⟨rfl, rfl⟩
  · have e : dig n = false := by unfold dig; simp; omega
    rw [e]; clear e
    go_enter Tryz.func69, Tryz.ntmps69
    go_wp2
    go_ret
    exact ⟨rfl, rfl⟩

set_option maxRecDepth 100000 in
set_option maxHeartbeats 1000000 in
theorem refAll_cap (s : ByteArray) (w : World) (hs : s.size ≤ 9223372036854775800) : Calls Tryz.prog 70 #[.string s, .bool true, .bool false] w fun e w' => e = .returned (.bool (allB cap s s.size)) ∧ w' = w := by
  have F0 := Lib.hid (show ∀ b, allB cap s s.size = b → Value.bool b = .bool (allB cap s s.size) by intro b h; rw [h])
  generalize Value.bool (allB cap s s.size) = V at *
  go_enter Tryz.func70, Tryz.ntmps70
  go_wp2
  go_loop [7, 8] (fun i _ => ∃ k : Nat, k ≤ s.size ∧ i = .int .i64 k ∧ Hid (allB cap s k = true)) (fun i _ => s.size - (intOf i).toNat)
  case atStart => exact ⟨0, Nat.zero_le _, rfl, rfl⟩
  case round =>
    obtain ⟨k, hk, rfl, hall⟩ := hrel
    by_cases hlt : k < s.size
    · have hb : byt s k = s[k].toNat := by unfold byt; rw [dif_pos hlt]
      cases hc : cap (byt s k) <;> cases hd : dig (byt s k)
      all_goals
        have hp := hc
        first
        | (have F := Lib.hid (F0.out _ (allB_false hlt hp))
           rw [hb] at hc hd
           have HB := Lib.hid hb; clear hb hp
           go_wp2_with (first | (go_at_call 68; refine (rcapital_any _ _).mono ?_; rintro e w' ⟨rfl, rfl⟩) | (go_at_call 69; refine (rdigit_any _ _).mono ?_; rintro e w' ⟨rfl, rfl⟩))
           go_ret
           exact ⟨congrArg Ending.returned F.out, rfl⟩)
        | (have F := Lib.hid (show allB cap s (k + 1) = true by unfold allB; rw [hall.out, hp]; rfl)
           rw [hb] at hc hd
           have HB := Lib.hid hb; clear hb hp
           go_wp2_with (first | (go_at_call 68; refine (rcapital_any _ _).mono ?_; rintro e w' ⟨rfl, rfl⟩) | (go_at_call 69; refine (rdigit_any _ _).mono ?_; rintro e w' ⟨rfl, rfl⟩))
           go_round
           case rel => exact ⟨k + 1, by omega, by go_num, F.out⟩
           case measure => simp [intOf]; omega)
    · obtain rfl : k = s.size := by omega
      have F := Lib.hid (F0.out _ hall.out)
      go_wp2
      go_ret
      exact ⟨congrArg Ending.returned F.out, rfl⟩

set_option maxRecDepth 100000 in
set_option maxHeartbeats 1000000 in
theorem refAll_alnum (s : ByteArray) (w : World) (hs : s.size ≤ 9223372036854775800) : Calls Tryz.prog 70 #[.string s, .bool true, .bool true] w fun e w' => e = .returned (.bool (allB alnum s s.size)) ∧ w' = w := by
  have F0 := Lib.hid (show ∀ b, allB alnum s s.size = b → Value.bool b = .bool (allB alnum s s.size) by intro b h; rw [h])
  generalize Value.bool (allB alnum s s.size) = V at *
  go_enter Tryz.func70, Tryz.ntmps70
  go_wp2
  go_loop [7, 8] (fun i _ => ∃ k : Nat, k ≤ s.size ∧ i = .int .i64 k ∧ Hid (allB alnum s k = true)) (fun i _ => s.size - (intOf i).toNat)
  case atStart => exact ⟨0, Nat.zero_le _, rfl, rfl⟩
  case round =>
    obtain ⟨k, hk, rfl, hall⟩ := hrel
    by_cases hlt : k < s.size
    · have hb : byt s k = s[k].toNat := by unfold byt; rw [dif_pos hlt]
      cases hc : cap (byt s k) <;> cases hd : dig (byt s k)
      all_goals
        have hp : alnum (byt s k) = (cap (byt s k) || dig (byt s k)) := rfl
        rw [hc, hd] at hp
        first
        | (have F := Lib.hid (F0.out _ (allB_false hlt hp))
           rw [hb] at hc hd
           have HB := Lib.hid hb; clear hb hp
           go_wp2_with (first | (go_at_call 68; refine (rcapital_any _ _).mono ?_; rintro e w' ⟨rfl, rfl⟩) | (go_at_call 69; refine (rdigit_any _ _).mono ?_; rintro e w' ⟨rfl, rfl⟩))
           go_ret
           exact ⟨congrArg Ending.returned F.out, rfl⟩)
        | (have F := Lib.hid (show allB alnum s (k + 1) = true by unfold allB; rw [hall.out, hp]; rfl)
           rw [hb] at hc hd
           have HB := Lib.hid hb; clear hb hp
           go_wp2_with (first | (go_at_call 68; refine (rcapital_any _ _).mono ?_; rintro e w' ⟨rfl, rfl⟩) | (go_at_call 69; refine (rdigit_any _ _).mono ?_; rintro e w' ⟨rfl, rfl⟩))
           go_round
           case rel => exact ⟨k + 1, by omega, by go_num, F.out⟩
           case measure => simp [intOf]; omega)
    · obtain rfl : k = s.size := by omega
      have F := Lib.hid (F0.out _ hall.out)
      go_wp2
      go_ret
      exact ⟨congrArg Ending.returned F.out, rfl⟩

set_option maxRecDepth 100000 in
set_option maxHeartbeats 1000000 in
theorem refAll_dig (s : ByteArray) (w : World) (_ : s.size ≤ 9223372036854775800) : Calls Tryz.prog 70 #[.string s, .bool false, .bool true] w fun e w' => e = .returned (.bool (allB dig s s.size)) ∧ w' = w := by
  have F0 := Lib.hid (show ∀ b, allB dig s s.size = b → Value.bool b = .bool (allB dig s s.size) by intro b h; rw [h])
  generalize Value.bool (allB dig s s.size) = V at *
  go_enter Tryz.func70, Tryz.ntmps70
  go_wp2
  go_loop [7, 8] (fun i _ => ∃ k : Nat, k ≤ s.size ∧ i = .int .i64 k ∧ Hid (allB dig s k = true)) (fun i _ => s.size - (intOf i).toNat)
  case atStart => exact ⟨0, Nat.zero_le _, rfl, rfl⟩
  case round =>
    obtain ⟨k, hk, rfl, hall⟩ := hrel
    by_cases hlt : k < s.size
    · have hb : byt s k = s[k].toNat := by unfold byt; rw [dif_pos hlt]
      cases hp : dig (byt s k)
      · have F := Lib.hid (F0.out _ (allB_false hlt hp))
        rw [hb] at hp
        have HB := Lib.hid hb; clear hb
        go_wp2_with (go_at_call 69; refine (rdigit_any _ _).mono ?_; rintro e w' ⟨rfl, rfl⟩)
        go_ret
        exact ⟨congrArg Ending.returned F.out, rfl⟩
      · have F := Lib.hid (show allB dig s (k + 1) = true by unfold allB; rw [hall.out, hp]; rfl)
        rw [hb] at hp
        have HB := Lib.hid hb; clear hb
        go_wp2_with (go_at_call 69; refine (rdigit_any _ _).mono ?_; rintro e w' ⟨rfl, rfl⟩)
        go_round
        case rel => exact ⟨k + 1, by omega, by go_num, F.out⟩
        case measure => simp [intOf]; omega
    · obtain rfl : k = s.size := by omega
      have F := Lib.hid (F0.out _ hall.out)
      go_wp2
      go_ret
      exact ⟨congrArg Ending.returned F.out, rfl⟩

theorem prt_iff {s : ByteArray} (h : 4 ≤ s.size) : prt (s.extract 0 2) (s.extract 4 s.size) = (allB cap (s.extract 0 2) (s.extract 0 2).size && decide (5 ≤ s.size) && decide (s.size ≤ 34) && allB alnum (s.extract 4 s.size) (s.extract 4 s.size).size) := by
  have z1 := ext_size s 0 2 (by omega)
  have z3 := ext_size s 4 s.size (by omega)
  unfold prt
  rw [show (((s.extract 0 2).size : Int) == 2) = true by simp; omega, Bool.true_and, show decide ((1 : Int) ≤ ((s.extract 4 s.size).size : Int)) = decide (5 ≤ s.size) from decide_eq_decide.2 (by omega),
    show decide (((s.extract 4 s.size).size : Int) ≤ 30) = decide (s.size ≤ 34) from decide_eq_decide.2 (by omega)]

theorem chk_bad {s : ByteArray} (h : s.size < 5 ∨ 34 < s.size ∨ allB cap (s.extract 0 2) (s.extract 0 2).size = false ∨ allB dig (s.extract 2 4) (s.extract 2 4).size = false ∨ allB alnum (s.extract 4 s.size) (s.extract 4 s.size).size = false) : chk s = 7 := by
  unfold chk
  split
  · rfl
  · rename_i h4
    split
    · rfl
    · rename_i hp
      rw [prt_iff (by omega)] at hp
      simp only [Bool.not_eq_false, Bool.and_eq_true, decide_eq_true_eq] at hp
      split
      · rfl
      · rename_i hd
        rcases h with h | h | h | h | h
        · omega
        · omega
        · rw [h] at hp; exact absurd hp.1.1.1 (by decide)
        · exact absurd h hd
        · rw [h] at hp; exact absurd hp.2 (by decide)
theorem chk_good {s : ByteArray} (h5 : 5 ≤ s.size) (h34 : s.size ≤ 34) (h1 : allB cap (s.extract 0 2) (s.extract 0 2).size = true) (h2 : allB dig (s.extract 2 4) (s.extract 2 4).size = true) (h3 : allB alnum (s.extract 4 s.size) (s.extract 4 s.size).size = true) :
    ∃ d, digO (s.extract 4 s.size ++ s.extract 0 2) = some d ∧ d.size = 2 ∧ chk s = if d.toList == (s.extract 2 4).toList then 0 else 8 := by
  have hp : prt (s.extract 0 2) (s.extract 4 s.size) = true := by
    rw [prt_iff (by omega), h1, h3, decide_eq_true h5, decide_eq_true h34]; rfl
  obtain ⟨d, hd, s4⟩ := prt_dig hp
  exact ⟨d, hd, s4, by unfold chk; rw [if_neg (by omega), if_neg (by rw [hp]; decide), if_neg (by rw [h2]; decide), hd]⟩

set_option maxRecDepth 100000 in
set_option maxHeartbeats 1000000 in
theorem refCheck_any (s : ByteArray) (w : World) (hs : s.size ≤ 9223372036854770000) :
    Calls Tryz.prog 33 #[.string s] w fun e w' => e = .returned (.int .i64 (chk s)) ∧ Below w.heap.size w w' := by
  cases h5 : decide ((s.size : Int) < 5) with
  | true =>
    have e : chk s = 7 := chk_bad (.inl (by have := of_decide_eq_true h5; omega))
    rw [e]; clear e
    go_enter Tryz.func33, Tryz.ntmps33
    go_wp2
    go_ret
    exact ⟨rfl, Below.refl _ _⟩
  | false =>
    have h5' : (5 : Int) ≤ (s.size : Int) := by simpa using h5
    cases h34 : decide ((34 : Int) < (s.size : Int)) with
    | true =>
      have e : chk s = 7 := chk_bad (.inr (.inl (by have := of_decide_eq_true h34; omega)))
      rw [e]; clear e
      go_enter Tryz.func33, Tryz.ntmps33
      go_wp2
      go_ret
      exact ⟨rfl, Below.refl _ _⟩
    | false =>
      have h34' : (s.size : Int) ≤ 34 := by simpa using h34
      have z1 := ext_size s 0 2 (by omega)
      have z2 := ext_size s 2 4 (by omega)
      have z3 := ext_size s 4 s.size (by omega)
      have a1 := fun w => refAll_cap (s.extract 0 2) w (by omega)
      have a2 := fun w => refAll_dig (s.extract 2 4) w (by omega)
      have a5 := fun w => refAll_alnum (s.extract 4 s.size) w (by omega)
      cases h1 : allB cap (s.extract 0 2) (s.extract 0 2).size
      · have e : chk s = 7 := chk_bad (.inr (.inr (.inl h1)))
        rw [e]; clear e
        rw [h1] at a1
        go_enter Tryz.func33, Tryz.ntmps33
        go_wp2_with fail
        refine (a1 _).mono ?_
        rintro e w' ⟨rfl, rfl⟩
        go_wp2
        go_ret
        exact ⟨rfl, Below.refl _ _⟩
      · cases h2 : allB dig (s.extract 2 4) (s.extract 2 4).size
        · have e : chk s = 7 := chk_bad (.inr (.inr (.inr (.inl h2))))
          rw [e]; clear e
          rw [h1] at a1
          rw [h2] at a2
          go_enter Tryz.func33, Tryz.ntmps33
          go_wp2_with fail
          refine (a1 _).mono ?_
          rintro e w' ⟨rfl, rfl⟩
          go_wp2_with fail
          refine (a2 _).mono ?_
          rintro e w' ⟨rfl, rfl⟩
          go_wp2
          go_ret
          exact ⟨rfl, Below.refl _ _⟩
        · cases h3 : allB alnum (s.extract 4 s.size) (s.extract 4 s.size).size
          · have e : chk s = 7 := chk_bad (.inr (.inr (.inr (.inr h3))))
            rw [e]; clear e
            rw [h1] at a1
            rw [h2] at a2
            rw [h3] at a5
            go_enter Tryz.func33, Tryz.ntmps33
            go_wp2_with fail
            refine (a1 _).mono ?_
            rintro e w' ⟨rfl, rfl⟩
            go_wp2_with fail
            refine (a2 _).mono ?_
            rintro e w' ⟨rfl, rfl⟩
            go_wp2_with fail
            refine (a5 _).mono ?_
            rintro e w' ⟨rfl, rfl⟩
            go_wp2
            go_ret
            exact ⟨rfl, Below.refl _ _⟩
          · obtain ⟨d, hd, s4, e0⟩ := chk_good (by omega) (by omega) h1 h2 h3
            rw [h1] at a1
            rw [h2] at a2
            rw [h3] at a5
            have a3 := fun w => refDigits_any (s.extract 4 s.size ++ s.extract 0 2) w (by rw [ByteArray.size_append]; omega)
            unfold refDigV at a3
            rw [hd] at a3
            simp only at a3
            have a4 := Lib.hid (fun n => a3 (w.drewN n))
            have HD := Lib.hid hd; clear hd
            cases h6 : d.toList == (s.extract 2 4).toList
            · rw [h6] at e0
              have e : chk s = 8 := e0
              rw [e]; clear e e0
              go_enter Tryz.func33, Tryz.ntmps33
              go_wp2_with fail
              refine (a1 _).mono ?_
              rintro e w' ⟨rfl, rfl⟩
              go_wp2_with fail
              refine (a2 _).mono ?_
              rintro e w' ⟨rfl, rfl⟩
              go_wp2_with fail
              refine (a5 _).mono ?_
              rintro e w' ⟨rfl, rfl⟩
              go_wp2_with fail
              go_region_with (go_at_call 71; refine (a4.out _).mono ?_; rintro e w1 ⟨rfl, hbw⟩)
              all_goals
                have hbw := EnvN.same hbw
                go_wp2
                go_ret
                exact ⟨rfl, hbw⟩
            · rw [h6] at e0
              have e : chk s = 0 := e0
              rw [e]; clear e e0
              go_enter Tryz.func33, Tryz.ntmps33
              go_wp2_with fail
              refine (a1 _).mono ?_
              rintro e w' ⟨rfl, rfl⟩
              go_wp2_with fail
              refine (a2 _).mono ?_
              rintro e w' ⟨rfl, rfl⟩
              go_wp2_with fail
              refine (a5 _).mono ?_
              rintro e w' ⟨rfl, rfl⟩
              go_wp2_with fail
              go_region_with (go_at_call 71; refine (a4.out _).mono ?_; rintro e w1 ⟨rfl, hbw⟩)
              all_goals
                have hbw := EnvN.same hbw
                go_wp2
                go_ret
                exact ⟨rfl, hbw⟩
set_option maxRecDepth 100000 in
set_option maxHeartbeats 1000000 in
theorem refCode_any (s : ByteArray) (w : World) (_ : s.size ≤ 9223372036854775800) : Calls Tryz.prog 34 #[.string s] w fun e w' => e = .returned (.bool (cod s)) ∧ w' = w := by
  cases h3 : ((s.size : Int) == 3)
  · have e : cod s = false := by unfold cod; rw [h3, Bool.and_false]
    rw [e]; clear e
    have h3q : ((s.size : Int) != 3) = true := by unfold bne; rw [h3]; rfl
    go_enter Tryz.func34, Tryz.ntmps34
    go_wp2
    go_ret
    exact ⟨rfl, rfl⟩
  · have h3q : ((s.size : Int) != 3) = false := by unfold bne; rw [h3]; rfl
    have s3 : s.size = 3 := by have := beq_iff_eq.1 h3; omega
    have F0 := Lib.hid (show ∀ b, allB cap s s.size = b → Value.bool b = .bool (cod s) from fun b h => by unfold cod; rw [h, h3, Bool.and_true])
    have H3 := Lib.hid h3; clear h3
    generalize Value.bool (cod s) = V at *
    go_enter Tryz.func34, Tryz.ntmps34
    go_wp2
    go_loop [3] (fun i => ∃ k : Nat, k ≤ 3 ∧ i = .int .i64 k ∧ Hid (allB cap s k = true)) (fun i => 3 - (intOf i).toNat)
    case atStart => exact ⟨0, Nat.zero_le _, rfl, rfl⟩
    case round =>
      obtain ⟨k, hk, rfl, hall⟩ := hrel
      by_cases hlt3 : k < 3
      · have hlt : k < s.size := by omega
        have hb : byt s k = s[k].toNat := by unfold byt; rw [dif_pos hlt]
        cases hc : cap (byt s k)
        · have F := Lib.hid (F0.out _ (allB_false hlt hc))
          rw [hb] at hc
          have HB := Lib.hid hb; clear hb
          have hr2 : (s[k].toNat : Int) < 65 ∨ (90 : Int) < (s[k].toNat : Int) := by unfold cap at hc; simp at hc; omega
          clear hc
          rcases hr2 with hr2 | hr2
          · go_wp2
            go_ret
            exact ⟨congrArg Ending.returned F.out, rfl⟩
          · have hr3 : ¬ (s[k].toNat : Int) < 65 := by omega
            go_wp2
            go_ret
            exact ⟨congrArg Ending.returned F.out, rfl⟩
        · have F := Lib.hid (show allB cap s (k + 1) = true by unfold allB; rw [hall.out, hc]; rfl)
          rw [hb] at hc
          have HB := Lib.hid hb; clear hb
          have q1 : (65 : Int) ≤ (s[k].toNat : Int) := by unfold cap at hc; simp at hc; omega
          have q2 : (s[k].toNat : Int) ≤ 90 := by unfold cap at hc; simp at hc; omega
          clear hc
          go_wp2
          go_round
          case rel => exact ⟨k + 1, by omega, by go_num, F.out⟩
          case measure => simp [intOf]; omega
      · obtain rfl : k = 3 := by omega
        have F := Lib.hid (F0.out true (by rw [s3]; exact hall.out))
        go_wp2
        go_ret
        exact ⟨congrArg Ending.returned F.out, rfl⟩

set_option maxRecDepth 100000 in
set_option maxHeartbeats 1000000 in
theorem refSystem_any (k : Int) (s : ByteArray) (w : World) (hs : s.size ≤ 9223372036854775800) : Calls Tryz.prog 35 #[.int .i64 k, .string s] w fun e w' => e = .returned (.string (sys k s)) ∧ w' = w := by
  have a1 := fun w => refCode_any s w hs
  cases h : cod s
  · have e : sys k s = ⟨#[]⟩ := by unfold sys; rw [h]; rfl
    rw [e]; clear e
    rw [h] at a1
    go_enter Tryz.func35, Tryz.ntmps35
    go_wp2_with (go_at_call 34; refine (a1 _).mono ?_; rintro e w' ⟨rfl, rfl⟩)
    go_ret
    exact ⟨rfl, rfl⟩
  · rw [h] at a1
    have s3 := cod_size h
    have e : sys k s = (match pre k with | some p => p ++ s | none => ⟨#[]⟩) := by unfold sys; rw [h]; rfl
    rw [e]; clear e
    unfold pre
    by_cases k2 : k = 2
    · subst k2
      go_enter Tryz.func35, Tryz.ntmps35
      go_wp2_with (go_at_call 34; refine (a1 _).mono ?_; rintro e w' ⟨rfl, rfl⟩)
      go_ret
      exact ⟨rfl, rfl⟩
    · by_cases k3 : k = 3
      · subst k3
        go_enter Tryz.func35, Tryz.ntmps35
        go_wp2_with (go_at_call 34; refine (a1 _).mono ?_; rintro e w' ⟨rfl, rfl⟩)
        go_ret
        exact ⟨rfl, rfl⟩
      · by_cases k4 : k = 4
        · subst k4
          go_enter Tryz.func35, Tryz.ntmps35
          go_wp2_with (go_at_call 34; refine (a1 _).mono ?_; rintro e w' ⟨rfl, rfl⟩)
          go_ret
          exact ⟨rfl, rfl⟩
        · by_cases k5 : k = 5
          · subst k5
            go_enter Tryz.func35, Tryz.ntmps35
            go_wp2_with (go_at_call 34; refine (a1 _).mono ?_; rintro e w' ⟨rfl, rfl⟩)
            go_ret
            exact ⟨rfl, rfl⟩
          · rw [if_neg k2, if_neg k3, if_neg k4, if_neg k5]
            simp only
            go_enter Tryz.func35, Tryz.ntmps35
            go_wp2_with (go_at_call 34; refine (a1 _).mono ?_; rintro e w' ⟨rfl, rfl⟩)
            go_ret
            exact ⟨rfl, rfl⟩
/-- The number of Id's error. -/
def idE (s : ByteArray) : Nat := if idOk s then 0 else 26
set_option maxRecDepth 100000 in
set_option maxHeartbeats 2000000 in
theorem refId_any (s : ByteArray) (w : World) (hs : s.size ≤ 9223372036854775800) : Calls Tryz.prog 32 #[.string s] w fun e w' => e = .returned (.int .i64 (idE s)) ∧ w' = w := by
  have HV := Lib.hid (show ∀ b, idOk s = b → Value.int .i64 (idE s) = .int .i64 (if b then 0 else 26) from fun b h => by unfold idE; rw [h]; cases b <;> rfl)
  generalize Value.int .i64 (idE s) = V at *
  cases t1 : decide ((s.size : Int) < 1) with
  | true =>
    have F := Lib.hid (HV.out false (by unfold idOk; rw [t1]; simp))
    go_enter Tryz.func32, Tryz.ntmps32
    go_wp2
    go_ret
    exact ⟨congrArg Ending.returned F.out.symm, rfl⟩
  | false =>
    cases t2 : decide ((32 : Int) < (s.size : Int)) with
    | true =>
      have F := Lib.hid (HV.out false (by unfold idOk; rw [t2]; simp))
      go_enter Tryz.func32, Tryz.ntmps32
      go_wp2
      go_ret
      exact ⟨congrArg Ending.returned F.out.symm, rfl⟩
    | false =>
      have HW := Lib.hid (show ∀ b, allB idb s s.size = b → V = .int .i64 (if b then 0 else 26) from fun b h => HV.out b (by unfold idOk; rw [h, t1, t2]; simp))
      clear HV
      go_enter Tryz.func32, Tryz.ntmps32
      go_wp2
      go_loop [3, 4, 5] (fun i _ _ => ∃ k : Nat, k ≤ s.size ∧ i = .int .i64 k ∧ Hid (allB idb s k = true)) (fun i _ _ => s.size - (intOf i).toNat)
      case atStart => exact ⟨0, Nat.zero_le _, rfl, rfl⟩
      case round =>
        obtain ⟨k, hk, rfl, hall⟩ := hrel
        by_cases hlt : k < s.size
        · have hb : byt s k = s[k].toNat := by unfold byt; rw [dif_pos hlt]
          cases hc : cap (s[k].toNat) with
          | true =>
            have e : idb (byt s k) = true := by rw [hb]; unfold idb; rw [hc]; simp
            have F := Lib.hid (show allB idb s (k + 1) = true by unfold allB; rw [hall.out, e]; rfl)
            have HB := Lib.hid hb; clear hb
            clear e
            go_wp2_with (first | (go_at_call 68; refine (rcapital_any _ _).mono ?_; rintro e w' ⟨rfl, rfl⟩) | (go_at_call 69; refine (rdigit_any _ _).mono ?_; rintro e w' ⟨rfl, rfl⟩))
            go_round
            case rel => exact ⟨k + 1, by omega, by go_num, F.out⟩
            case measure => simp [intOf]; omega
          | false =>
            cases hd : dig (s[k].toNat) with
            | true =>
              have e : idb (byt s k) = true := by rw [hb]; unfold idb; rw [hc, hd]; simp
              have F := Lib.hid (show allB idb s (k + 1) = true by unfold allB; rw [hall.out, e]; rfl)
              have HB := Lib.hid hb; clear hb
              clear e
              go_wp2_with (first | (go_at_call 68; refine (rcapital_any _ _).mono ?_; rintro e w' ⟨rfl, rfl⟩) | (go_at_call 69; refine (rdigit_any _ _).mono ?_; rintro e w' ⟨rfl, rfl⟩))
              go_round
              case rel => exact ⟨k + 1, by omega, by go_num, F.out⟩
              case measure => simp [intOf]; omega
            | false =>
              cases h1 : decide ((97 : Int) ≤ (s[k].toNat : Int)) with
              | true =>
                have h1' := of_decide_eq_true h1
                cases h2 : decide ((s[k].toNat : Int) ≤ 122) with
                | true =>
                  have e : idb (byt s k) = true := by rw [hb]; unfold idb; rw [hc, hd, h1, h2]; simp
                  have F := Lib.hid (show allB idb s (k + 1) = true by unfold allB; rw [hall.out, e]; rfl)
                  have HB := Lib.hid hb; clear hb
                  clear e
                  go_wp2_with (first | (go_at_call 68; refine (rcapital_any _ _).mono ?_; rintro e w' ⟨rfl, rfl⟩) | (go_at_call 69; refine (rdigit_any _ _).mono ?_; rintro e w' ⟨rfl, rfl⟩))
                  go_round
                  case rel => exact ⟨k + 1, by omega, by go_num, F.out⟩
                  case measure => simp [intOf]; omega
                | false =>
                  have h2' := of_decide_eq_false h2
                  have e46 : ((s[k].toNat : Int) == 46) = false := by simp; omega
                  have e95 : ((s[k].toNat : Int) == 95) = false := by simp; omega
                  have e45 : ((s[k].toNat : Int) == 45) = false := by simp; omega
                  clear h2'
                  have e : idb (byt s k) = false := by rw [hb]; unfold idb; rw [hc, hd, h1, h2, e46, e95, e45]; rfl
                  have F := Lib.hid (HW.out false (allB_false hlt e))
                  have HB := Lib.hid hb; clear hb
                  clear e
                  go_wp2_with (first | (go_at_call 68; refine (rcapital_any _ _).mono ?_; rintro e w' ⟨rfl, rfl⟩) | (go_at_call 69; refine (rdigit_any _ _).mono ?_; rintro e w' ⟨rfl, rfl⟩))
                  go_ret
                  exact ⟨congrArg Ending.returned F.out.symm, rfl⟩
              | false =>
                cases h46 : ((s[k].toNat : Int) == 46) with
                | true =>
                  have e : idb (byt s k) = true := by rw [hb]; unfold idb; rw [hc, hd, h1, h46]; simp
                  have F := Lib.hid (show allB idb s (k + 1) = true by unfold allB; rw [hall.out, e]; rfl)
                  have HB := Lib.hid hb; clear hb
                  clear e
                  go_wp2_with (first | (go_at_call 68; refine (rcapital_any _ _).mono ?_; rintro e w' ⟨rfl, rfl⟩) | (go_at_call 69; refine (rdigit_any _ _).mono ?_; rintro e w' ⟨rfl, rfl⟩))
                  go_round
                  case rel => exact ⟨k + 1, by omega, by go_num, F.out⟩
                  case measure => simp [intOf]; omega
                | false =>
                  cases h95 : ((s[k].toNat : Int) == 95) with
                  | true =>
                    have e : idb (byt s k) = true := by rw [hb]; unfold idb; rw [hc, hd, h1, h46, h95]; simp
                    have F := Lib.hid (show allB idb s (k + 1) = true by unfold allB; rw [hall.out, e]; rfl)
                    have HB := Lib.hid hb; clear hb
                    clear e
                    go_wp2_with (first | (go_at_call 68; refine (rcapital_any _ _).mono ?_; rintro e w' ⟨rfl, rfl⟩) | (go_at_call 69; refine (rdigit_any _ _).mono ?_; rintro e w' ⟨rfl, rfl⟩))
                    go_round
                    case rel => exact ⟨k + 1, by omega, by go_num, F.out⟩
                    case measure => simp [intOf]; omega
                  | false =>
                    cases h45 : ((s[k].toNat : Int) == 45) with
                    | true =>
                      have e : idb (byt s k) = true := by rw [hb]; unfold idb; rw [hc, hd, h1, h46, h95, h45]; simp
                      have F := Lib.hid (show allB idb s (k + 1) = true by unfold allB; rw [hall.out, e]; rfl)
                      have HB := Lib.hid hb; clear hb
                      clear e
                      go_wp2_with (first | (go_at_call 68; refine (rcapital_any _ _).mono ?_; rintro e w' ⟨rfl, rfl⟩) | (go_at_call 69; refine (rdigit_any _ _).mono ?_; rintro e w' ⟨rfl, rfl⟩))
                      go_round
                      case rel => exact ⟨k + 1, by omega, by go_num, F.out⟩
                      case measure => simp [intOf]; omega
                    | false =>
                      have e : idb (byt s k) = false := by rw [hb]; unfold idb; rw [hc, hd, h1, h46, h95, h45]; simp
                      have F := Lib.hid (HW.out false (allB_false hlt e))
                      have HB := Lib.hid hb; clear hb
                      clear e
                      go_wp2_with (first | (go_at_call 68; refine (rcapital_any _ _).mono ?_; rintro e w' ⟨rfl, rfl⟩) | (go_at_call 69; refine (rdigit_any _ _).mono ?_; rintro e w' ⟨rfl, rfl⟩))
                      go_ret
                      exact ⟨congrArg Ending.returned F.out.symm, rfl⟩
        · obtain rfl : k = s.size := by omega
          have F := Lib.hid (HW.out true hall.out)
          go_wp2
          go_ret
          exact ⟨congrArg Ending.returned F.out.symm, rfl⟩

end Go.Proofs.YtodekiimkbejnaaGreatDoor
