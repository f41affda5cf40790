/- strings.Cut at a dot; posting.accountFits: walked. -/
import Derived.Test.YtodekiimkbejnaaGreatDoorPost1
namespace Go.Proofs.YtodekiimkbejnaaGreatDoor
open Go.RowKit

theorem dot_dot : dot ⟨#[46]⟩ = 0 := by kernel_rfl
set_option maxRecDepth 100000 in
theorem indexByte_any (s : ByteArray) (w : World) : Calls Tryz.prog 104 #[.string s, .int .u8 46] w fun e w' => e = .returned (.int .i64 (dot s)) ∧ w' = w := by
  have k := run_indexByte s
  go_enter Tryz.func104, Tryz.ntmps104
  go_wp2
  go_ret
  exact ⟨rfl, rfl⟩
set_option maxRecDepth 100000 in
set_option maxHeartbeats 1000000 in
theorem index_any (s : ByteArray) (w : World) : Calls Tryz.prog 95 #[.string s, .string ⟨#[46]⟩] w fun e w' => e = .returned (.int .i64 (dot s)) ∧ w' = w := by
  cases h : (([46] : List UInt8) == s.toList) with
  | true =>
    have hl := eq_of_beq h
    rw [ByteArray.toList_eq] at hl
    obtain rfl : s = ⟨#[46]⟩ := by
      obtain ⟨⟨l⟩⟩ := s
      have hl2 : [46] = l := hl
      rw [← hl2]
    rw [dot_dot]
    clear h hl
    go_enter Tryz.func95, Tryz.ntmps95
    go_wp2
    go_ret
    exact ⟨rfl, rfl⟩
  | false =>
    have a1 := indexByte_any s w
    generalize dot s = d at *
    go_enter Tryz.func95, Tryz.ntmps95
    go_wp2_with fail
    refine a1.mono ?_
    rintro e w' ⟨rfl, rfl⟩
    go_wp2
    go_ret
    exact ⟨rfl, rfl⟩
/-- What stands behind the first dot. -/
def code (s : ByteArray) : ByteArray := if decide ((0 : Int) ≤ dot s) then s.extract (dot s + 1).toNat s.size else ⟨#[]⟩
def pref (s : ByteArray) : ByteArray := if decide ((0 : Int) ≤ dot s) then s.extract 0 (dot s).toNat else s
set_option maxRecDepth 100000 in
set_option maxHeartbeats 1000000 in
theorem cut1_any (s : ByteArray) (w : World) (hs : s.size ≤ 9223372036854775000) : Calls Tryz.prog 75 #[.string s, .string ⟨#[46]⟩] w fun e w' => e = .returned (.tuple #[.string (pref s), .string (code s), .bool (decide ((0 : Int) ≤ dot s))]) ∧ ∃ k, w' = w.drewN k := by
  have a1 := index_any s w
  obtain ⟨h1, h2⟩ := dot_le s
  unfold pref code
  cases h : decide ((0 : Int) ≤ dot s) with
  | true =>
    obtain ⟨d, hd⟩ := Int.eq_ofNat_of_zero_le (of_decide_eq_true h)
    rw [hd] at a1 h2 ⊢
    rw [if_pos rfl, if_pos rfl, Int.toNat_natCast, show ((d : Int) + 1).toNat = d + 1 by omega]
    have h3 : (d : Int) + 1 ≤ (s.size : Int) := by omega
    have h4 : d + 1 ≤ s.size := by omega
    clear h h1 hd
    go_enter Tryz.func75, Tryz.ntmps75
    go_wp2_with fail
    refine a1.mono ?_
    rintro e w' ⟨rfl, rfl⟩
    go_wp2
    go_quiet (fail)
    go_wp2
    go_ret3
    exact ⟨rfl, _, rfl⟩
  | false =>
    rw [if_neg (by decide), if_neg (by decide)]
    have h3 : ¬ (0 : Int) ≤ dot s := of_decide_eq_false h
    clear h1 h2
    generalize dot s = d at *
    go_enter Tryz.func75, Tryz.ntmps75
    go_wp2_with fail
    refine a1.mono ?_
    rintro e w' ⟨rfl, rfl⟩
    go_wp2
    go_ret3
    exact ⟨rfl, 0, rfl⟩
set_option maxRecDepth 100000 in
theorem cut_any (s : ByteArray) (w : World) (hs : s.size ≤ 9223372036854775000) : Calls Tryz.prog 45 #[.string s, .string ⟨#[46]⟩] w fun e w' => e = .returned (.tuple #[.string (pref s), .string (code s), .bool (decide ((0 : Int) ≤ dot s))]) ∧ ∃ k, w' = w.drewN k := by
  have a1 := cut1_any s w hs
  generalize decide ((0 : Int) ≤ dot s) = b at *
  go_enter Tryz.func45, Tryz.ntmps45
  go_wp2_with fail
  refine a1.mono ?_
  rintro e w' ⟨rfl, k, rfl⟩
  go_wp2
  go_ret3
  exact ⟨rfl, k, rfl⟩
theorem code_size (s : ByteArray) : (code s).size ≤ s.size := by
  unfold code
  split
  · rw [ByteArray.size_extract]; omega
  · exact Nat.zero_le _
set_option maxRecDepth 100000 in
theorem systems_any (w : World) : Calls Tryz.prog 46 #[] w fun e w' => e = .returned (.slice (some ⟨w.heap.size, 0, none⟩) 4 4) ∧ w' = w.alloc (.cells #[.int .i64 2, .int .i64 3, .int .i64 4, .int .i64 5] 3) := by
  go_enter Tryz.func46, Tryz.ntmps46
  go_wp2
  go_ret
  exact ⟨rfl, rfl⟩

/-- Is the text the system's account of kind k for what stands behind its dot? -/
def sysIs (s : ByteArray) (k : Nat) : Bool := (sys (k : Int) (code s)).toList == s.toList
/-- May the text be a leg's account? -/
def acFit (s : ByteArray) : Bool := decide (chk s = 0) || (decide ((0 : Int) ≤ dot s) && (sysIs s 2 || sysIs s 3 || sysIs s 4 || sysIs s 5))
theorem four_cells (w : World) (i : Nat) (hi : i < 4) : (w.alloc (.cells #[.int .i64 2, .int .i64 3, .int .i64 4, .int .i64 5] 3)).cell? ⟨w.heap.size, i, none⟩ = some (.int .i64 ((2 + i : Nat) : Int)) := by
  unfold World.cell?
  rw [heap_alloc_new]
  obtain rfl | rfl | rfl | rfl : i = 0 ∨ i = 1 ∨ i = 2 ∨ i = 3 := by omega
  all_goals rfl

set_option maxRecDepth 100000 in
set_option maxHeartbeats 2000000 in
theorem accountFits_any (B : Nat → Addr) (s : ByteArray) (w : World) (hE : Env w B) (hs : s.size ≤ 9223372036854770000) : Calls Tryz.prog 25 #[.string s] w fun e w' => e = .returned (.bool (acFit s)) ∧ Below w.heap.size w w' := by
  have a1 := check_any B s w hE hs
  clear hE
  by_cases h0 : chk s = 0
  · rw [h0] at a1
    have e1 : acFit s = true := by unfold acFit; rw [decide_eq_true h0]; rfl
    rw [e1, show ev B 0 = .nilIface from rfl] at *
    clear h0 e1
    go_enter Tryz.func25, Tryz.ntmps25
    go_wp2_with fail
    refine a1.mono ?_
    rintro e w' ⟨rfl, hb⟩
    go_wp2
    go_ret
    exact ⟨rfl, hb⟩
  · have e1 : ev B (chk s) = .iface 135 (.pointer (some (B (G (chk s - 1))))) := by unfold ev; rw [if_neg h0]
    rw [e1] at a1
    have e2 : acFit s = (decide ((0 : Int) ≤ dot s) && (sysIs s 2 || sysIs s 3 || sysIs s 4 || sysIs s 5)) := by unfold acFit; rw [decide_eq_false h0, Bool.false_or]
    rw [e2]
    clear e1 e2 h0
    generalize B (G (chk s - 1)) = ad at *
    have a2 := fun w => cut_any s w (by omega)
    have a4 := fun k w => system_any k (code s) w (by have := code_size s; omega)
    cases hd : decide ((0 : Int) ≤ dot s) with
    | false =>
      rw [hd] at a2
      rw [Bool.false_and]
      clear a4
      go_enter Tryz.func25, Tryz.ntmps25
      go_wp2_with fail
      refine a1.mono ?_
      rintro e w1 ⟨rfl, hb⟩
      have HB := Lib.hid hb; clear hb
      go_wp2_with fail
      refine (a2 _).mono ?_
      rintro e w' ⟨rfl, k, rfl⟩
      have hsz : w1.heap.size ≤ (w1.drewN k).heap.size := Nat.le_refl _
      have HB2 := Lib.hid (below_drewN HB.out k)
      generalize w1.drewN k = w2 at *
      go_wp2_with fail
      refine (systems_any _).mono ?_
      rintro e w' ⟨rfl, rfl⟩
      have hc := four_cells w2
      have HB3 := Lib.hid (HB2.out.alloc HB2.out.size (.cells #[.int .i64 2, .int .i64 3, .int .i64 4, .int .i64 5] 3))
      generalize w2.alloc (.cells #[.int .i64 2, .int .i64 3, .int .i64 4, .int .i64 5] 3) = w3 at *
      obtain ⟨g, hg⟩ : ∃ g, g = w2.heap.size := ⟨_, rfl⟩
      rw [← hg] at hc ⊢
      clear hg hsz
      have HC := Lib.hid hc; clear hc
      go_wp2_with fail
      go_loopw [19, 7] (fun vi _ wr => ∃ i : Nat, vi = .int .i64 i ∧ i ≤ 4 ∧ Hid (wr = w3)) (fun vi _ _ => 4 - (intOf vi).toNat)
      case atStart => exact ⟨0, rfl, by omega, rfl⟩
      case round =>
        obtain ⟨i, rfl, hi, hw⟩ := hrel
        have hw2 := hw.out
        subst hw2
        clear hw
        cases t : decide ((i : Int) < 4) with
        | true =>
          have t' := of_decide_eq_true t
          have hci := HC.out i (by omega)
          go_wp2
          go_roundw
          case rel => exact ⟨i + 1, by go_num, by omega, Lib.hid trivial⟩
          case measure => simp [intOf]; omega
        | false =>
          go_wp2
          go_ret
          exact ⟨rfl, HB3.out⟩
    | true =>
      rw [hd] at a2
      rw [Bool.true_and]
      have HS := Lib.hid (show ∀ k : Nat, sysIs s k = ((sys (k : Int) (code s)).toList == s.toList) from fun k => rfl)
      go_enter Tryz.func25, Tryz.ntmps25
      go_wp2_with fail
      refine a1.mono ?_
      rintro e w1 ⟨rfl, hb⟩
      have HB := Lib.hid hb; clear hb
      go_wp2_with fail
      refine (a2 _).mono ?_
      rintro e w' ⟨rfl, k, rfl⟩
      have HB2 := Lib.hid (below_drewN HB.out k)
      generalize w1.drewN k = w2 at *
      go_wp2_with fail
      refine (systems_any _).mono ?_
      rintro e w' ⟨rfl, rfl⟩
      have hc := four_cells w2
      have HB3 := Lib.hid (HB2.out.alloc HB2.out.size (.cells #[.int .i64 2, .int .i64 3, .int .i64 4, .int .i64 5] 3))
      generalize w2.alloc (.cells #[.int .i64 2, .int .i64 3, .int .i64 4, .int .i64 5] 3) = w3 at *
      obtain ⟨g, hg⟩ : ∃ g, g = w2.heap.size := ⟨_, rfl⟩
      rw [← hg] at hc ⊢
      clear hg
      have HC := Lib.hid hc; clear hc a1 a2
      generalize code s = cd at *
      go_wp2_with fail
      go_loopw [19, 7] (fun vi _ wr => ∃ i : Nat, vi = .int .i64 i ∧ i ≤ 4 ∧ Hid (wr = w3 ∧ ∀ j, j < i → sysIs s (2 + j) = false)) (fun vi _ _ => 4 - (intOf vi).toNat)
      case atStart => exact ⟨0, rfl, by omega, rfl, fun j hj => absurd hj (Nat.not_lt_zero _)⟩
      case round =>
        obtain ⟨i, rfl, hi, hw⟩ := hrel
        have hw2 := hw.out.1
        subst hw2
        cases t : decide ((i : Int) < 4) with
        | true =>
          have t' := of_decide_eq_true t
          have hci := HC.out i (by omega)
          have a5 := a4 ((2 + i : Nat) : Int)
          have hsi := HS.out (2 + i)
          cases hq : sysIs s (2 + i) with
          | true =>
            rw [hq] at hsi
            have HR := Lib.hid (show (sysIs s 2 || sysIs s 3 || sysIs s 4 || sysIs s 5) = true by
              obtain rfl | rfl | rfl | rfl : i = 0 ∨ i = 1 ∨ i = 2 ∨ i = 3 := by omega
              all_goals (simp at hq; simp [hq]))
            generalize sys ((2 + i : Nat) : Int) cd = q at *
            replace hsi := hsi.symm
            clear hq hw a4
            go_wp2_with fail
            refine (a5 _).mono ?_
            rintro e w' ⟨rfl, rfl⟩
            go_wp2
            go_ret
            exact ⟨by rw [HR.out]; rfl, HB3.out⟩
          | false =>
            rw [hq] at hsi
            have HR := Lib.hid (show ∀ j, j < i + 1 → sysIs s (2 + j) = false from fun j hj => by
              rcases Nat.lt_or_ge j i with h | h
              · exact hw.out.2 j h
              · obtain rfl : j = i := by omega
                exact hq)
            generalize sys ((2 + i : Nat) : Int) cd = q at *
            replace hsi := hsi.symm
            clear hq hw a4
            go_wp2_with fail
            refine (a5 _).mono ?_
            rintro e w' ⟨rfl, rfl⟩
            go_wp2
            go_roundw
            case rel => exact ⟨i + 1, by go_num, by omega, Lib.hid ⟨trivial, HR.out⟩⟩
            case measure => simp [intOf]; omega
        | false =>
          have h4 : 4 ≤ i := by have := of_decide_eq_false t; omega
          have HR := Lib.hid (show (sysIs s 2 || sysIs s 3 || sysIs s 4 || sysIs s 5) = false by
            rw [hw.out.2 0 (by omega), hw.out.2 1 (by omega), hw.out.2 2 (by omega), hw.out.2 3 (by omega)]; rfl)
          clear h4 hw
          go_wp2
          go_ret
          exact ⟨by rw [HR.out]; rfl, HB3.out⟩
end Go.Proofs.YtodekiimkbejnaaGreatDoor
