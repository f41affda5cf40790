/- remitlaw28.amount: walked. -/
import Derived.Test.YtodekiimkbejnaaDoorReplay
namespace Go.Proofs.YtodekiimkbejnaaDoor
open Go.RowKit Go.WideMaps Go.Maps

/-- The first k legs do not bear the account. -/
def noAcc (lg : Nat → LegV) (t : ByteArray) (k : Nat) : Prop := ∀ i, i < k → ((lg i).a.toList == t.toList) = false
/-- What amount answers. -/
def AmtPost (lg : Nat → LegV) (n : Nat) (t : ByteArray) (e : Ending) : Prop :=
  (∃ i, i < n ∧ noAcc lg t i ∧ (lg i).a.toList = t.toList ∧ e = .returned (.tuple #[.int .i64 (lg i).x, .bool true])) ∨ (noAcc lg t n ∧ e = .returned (.tuple #[.int .i64 0, .bool false]))

set_option maxRecDepth 100000 in
set_option maxHeartbeats 4000000 in
theorem amount_any (A : Option Addr) (n c : Nat) (lg : Nat → LegV) (t : ByteArray) (w : World) (hL : LegsAt w A n lg) (hAb : 0 < n → ∀ a, A = some a → a.block < w.heap.size) (hn : n ≤ 140737488351232) :
    Calls Tryd.prog 7 #[.slice A n c, .string t] w fun e w' => AmtPost lg n t e ∧ Below w.heap.size w w' := by
  have HL := Lib.hid (fun w' (hb : Below w.heap.size w w') => hL.below hAb hb)
  clear hL hAb
  go_enter Tryd.func7, Tryd.ntmps7
  go_wp2_with fail
  go_loopw [10, 7] (fun vi _ wr => ∃ k : Nat, vi = .int .i64 k ∧ k ≤ n ∧ Hid (Below w.heap.size w wr ∧ noAcc lg t k)) (fun vi _ _ => n - (intOf vi).toNat)
  case atStart => exact ⟨0, rfl, Nat.zero_le _, Lib.hid ⟨Below.refl _ _, fun i h => by omega⟩⟩
  case round =>
    obtain ⟨k, rfl, hk, hh⟩ := hrel
    have hw := hh.out.1
    have hsz := hw.size
    by_cases h : k < n
    · obtain ⟨g, o, rfl, hg, hc⟩ := HL.out _ hw (by omega)
      obtain ⟨c0, c1, hok⟩ := hc k h
      have hnb := Below.new wr (.cells #[.string (lg k).a, .int .i64 (lg k).x] 31)
      have HW2 := Lib.hid (hw.trans (hnb.mono hsz))
      clear hc hw hnb
      cases e0 : ((lg k).a.toList == t.toList) with
      | true =>
        have HP := Lib.hid (fun e he => (show AmtPost lg n t e from .inl ⟨k, h, hh.out.2, beq_iff_eq.mp e0, he⟩))
        clear hh
        go_wp2
        try go_quiet (fail)
        try go_wp2
        go_ret2
        exact ⟨HP.out _ rfl, HW2.out⟩
      | false =>
        have HP := Lib.hid (show noAcc lg t (k + 1) from fun i hi => by
          by_cases e : i = k
          · subst e; exact e0
          · exact hh.out.2 i (by omega))
        clear hh
        go_wp2
        go_roundw
        case rel => exact ⟨k + 1, by go_num, by omega, Lib.hid ⟨HW2.out, HP.out⟩⟩
        case measure => simp [intOf]; omega
    · obtain rfl : k = n := by omega
      have HP := Lib.hid (show AmtPost lg k t (.returned (.tuple #[.int .i64 0, .bool false])) from .inr ⟨hh.out.2, rfl⟩)
      have HW := Lib.hid hw
      clear hh hw
      go_wp2
      try go_quiet (fail)
      try go_wp2
      go_ret2
      exact ⟨HP.out, HW.out⟩
end Go.Proofs.YtodekiimkbejnaaDoor
