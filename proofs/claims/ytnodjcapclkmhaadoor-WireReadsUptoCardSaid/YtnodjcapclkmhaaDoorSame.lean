/- SameTexts at two lists that read alike; longest: walked. -/
import Derived.Test.YtnodjcapclkmhaaDoorGet3
namespace Go.Proofs.YtnodjcapclkmhaaDoor
open Go.RowKit

set_option maxRecDepth 100000 in
set_option maxHeartbeats 1000000 in
theorem same_any (A A' : Option Addr) (n c c' : Nat) (ss : Nat → ByteArray) (w : World) (hn : n < 9223372036854775807) (hA : Sl w A n (fun i => .string (ss i))) (hB : Sl w A' n (fun i => .string (ss i))) :
    Calls Tryd.prog 20 #[.slice A n c, .slice A' n c'] w fun e w' => e = .returned (.bool true) ∧ ∃ k, w' = w.drewN k := by
  have HA := Lib.hid hA; have HB := Lib.hid hB; clear hA hB
  go_enter Tryd.func20, Tryd.ntmps20
  go_wp2
  go_loopw [13, 5] (fun i _ wr => ∃ k : Nat, i = .int .i64 k ∧ k ≤ n ∧ Hid (∃ j, wr = w.drewN j)) (fun i _ _ => n - (intOf i).toNat)
  case atStart => exact ⟨0, rfl, Nat.zero_le _, 0, rfl⟩
  case round =>
    obtain ⟨k, rfl, hk, hb⟩ := hrel
    by_cases h : k < n
    · obtain ⟨b, o, rfl, hbl, hc⟩ := HA.out (by omega)
      obtain ⟨b', o', rfl, hbl', hc'⟩ := HB.out (by omega)
      have hj := hb.out
      have e1 : wr.cell? ⟨b, o + k, none⟩ = some (.string (ss k)) := by obtain ⟨j, rfl⟩ := hj; exact hc k h
      have e2 : wr.cell? ⟨b', o' + k, none⟩ = some (.string (ss k)) := by obtain ⟨j, rfl⟩ := hj; exact hc' k h
      have HJ := Lib.hid hj
      clear hc hc' hj hb
      generalize ss k = x at *
      go_wp2
      go_quiet (fail)
      go_wp2
      go_roundw
      case rel => exact ⟨k + 1, by go_num, by omega, by obtain ⟨j, rfl⟩ := HJ.out; exact Lib.hid ⟨_, World.drewN_drewN ..⟩⟩
      case measure => simp [intOf]; omega
    · obtain rfl : k = n := by omega
      go_wp2
      go_ret
      exact ⟨rfl, hb.out⟩

/-- The length of the longest of the first n texts. -/
def lng (ss : Nat → ByteArray) : Nat → Nat
  | 0 => 0
  | n + 1 => max (lng ss n) (ss n).size
end Go.Proofs.YtnodjcapclkmhaaDoor
