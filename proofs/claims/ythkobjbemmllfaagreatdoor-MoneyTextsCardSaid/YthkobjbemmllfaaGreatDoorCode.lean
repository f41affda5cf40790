/- money.Code of the text EUR: walked. -/
import Derived.Test.YthkobjbemmllfaaGreatDoorText
namespace Go.Proofs.YthkobjbemmllfaaGreatDoor
open Go.RowKit

set_option maxRecDepth 100000 in
theorem code_eur (w : World) : Calls Tryz.prog 11 #[.string ⟨#[69, 85, 82]⟩] w fun e w' => e = .returned (.bool true) ∧ w = w' := by
  go_enter Tryz.func11, Tryz.ntmps11
  go_wp2
  go_loop [6] (fun v => ∃ k : Nat, v = .int .i64 k ∧ k ≤ 3) (fun v => 3 - (intOf v).toNat)
  case atStart => exact ⟨0, rfl, by omega⟩
  case round =>
    obtain ⟨k, rfl, hk⟩ := hrel
    rcases (by omega : k = 0 ∨ k = 1 ∨ k = 2 ∨ k = 3) with rfl | rfl | rfl | rfl
    · go_wp2
      all_goals first | exact ⟨⟨1, rfl, by omega⟩, by simp [intOf]⟩ | skip
    · go_wp2
      all_goals first | exact ⟨⟨2, rfl, by omega⟩, by simp [intOf]⟩ | skip
    · go_wp2
      all_goals first | exact ⟨⟨3, rfl, by omega⟩, by simp [intOf]⟩ | skip
    · go_wp2
      go_ret
      exact ⟨rfl, rfl⟩
end Go.Proofs.YthkobjbemmllfaaGreatDoor
