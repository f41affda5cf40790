/- OwnTexts of no lists at all: walked. -/
import Derived.Test.YtnodjcapclkmhaaDoorOwnT
import Derived.Laws.AppendOwnNone
namespace Go.Proofs.YtnodjcapclkmhaaDoor
open Go.RowKit

set_option maxRecDepth 100000 in
set_option maxHeartbeats 4000000 in
theorem own_nil (w0 : World) : Calls Tryd.prog 21 #[.slice none 0 0] w0 fun e w' => e = .returned (.bool true) ∧ Below w0.heap.size w0 w' := by
  go_enter Tryd.func21, Tryd.ntmps21
  go_wp2_with fail
  go_loopw [15, 3, 4, 5] (fun vi _ _ _ wr => vi = .int .i64 0 ∧ wr = w0) (fun _ _ _ _ _ => (0 : Nat))
  case atStart => exact ⟨rfl, rfl⟩
  case round =>
    obtain ⟨rfl, hw⟩ := hrel
    subst wr
    obtain ⟨i0, hi0, hz0, hz1, hz2⟩ := info_parts info28
    have hown0 : (w0.alloc (.cells #[] 28)).ownsRow w0.heap.size 28 1 (.slice (some ⟨w0.heap.size, 0, none⟩) 0 0) 0 [] := World.ownsRow_made w0 #[] 0 (Nat.le_refl _) (by unfold maxLen; omega) rfl
    have HB := Lib.hid (show Below w0.heap.size w0 (w0.alloc (.cells #[] 28)) from Below.new w0 _)
    go_wp2_with (first | (at_builtin; refine wpList_append_own_none rfl _ _ 41 rfl w0.heap.size 28 i0 1 Tryd.underlying41 hi0 _ 0 [] rfl hown0 rfl ?_))
    go_wp2_with fail
    go_loopw [7, 8, 9] (fun vk _ _ wx => ∃ k : Nat, vk = .int .i64 k ∧ k ≤ 80 ∧ Hid (Below w0.heap.size w0 wx)) (fun vk _ _ _ => 80 - (intOf vk).toNat)
    case atStart => exact ⟨0, rfl, by omega, HB⟩
    case round =>
      obtain ⟨k, rfl, hk, hx⟩ := hrel
      cases t : decide ((k : Int) < 80) with
      | true =>
        have t' := of_decide_eq_true t
        go_wp2_with fail
        go_loopw [42, 8, 9] (fun vm _ _ wx => vm = .int .i64 0 ∧ Hid (Below w0.heap.size w0 wx)) (fun _ _ _ _ => (0 : Nat))
        case atStart => exact ⟨rfl, hx⟩
        case round =>
          obtain ⟨rfl, hy⟩ := hrel
          go_wp2
          go_roundw
          case rel => exact ⟨k + 1, by go_num, by omega, hy⟩
          case measure => simp [intOf]; omega
      | false =>
        have hk80 : k = 80 := by have := of_decide_eq_false t; omega
        go_wp2_with fail
        go_loopw [65, 10, 11, 12] (fun vm _ _ _ wx => vm = .int .i64 0 ∧ Hid (Below w0.heap.size w0 wx)) (fun _ _ _ _ _ => (0 : Nat))
        case atStart => exact ⟨rfl, hx⟩
        case round =>
          obtain ⟨rfl, hy⟩ := hrel
          go_wp2
          go_ret
          exact ⟨rfl, hy.out⟩
end Go.Proofs.YtnodjcapclkmhaaDoor
