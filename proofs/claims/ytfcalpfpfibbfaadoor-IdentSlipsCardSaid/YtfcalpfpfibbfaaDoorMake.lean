/- ident.parts and Make, the reference's Make: walked. -/
import Derived.Test.YtfcalpfpfibbfaaDoorParts
namespace Go.Proofs.YtfcalpfpfibbfaaDoor
open Go.RowKit

theorem plain_any (s : ByteArray) (w : World) (hs : s.size ≤ 9223372036854775800) : Calls Tryd.prog 46 #[.string s] w fun e w' => e = .returned (.bool (allB alnum s s.size)) ∧ w' = w := by
  generalize hV : Value.bool (allB alnum s s.size) = V
  go_enter Tryd.func46, Tryd.ntmps46
  go_wp2_with (go_at_call 35; refine (all_plain s _ hs).mono ?_; rintro e w' ⟨rfl, rfl⟩)
  go_ret
  exact ⟨rfl, rfl⟩

/-- Is the country two capitals and the number 1 to 30 digits or capitals? -/
def prt (c b : ByteArray) : Bool := ((c.size : Int) == 2) && allB cap c c.size && decide ((1 : Int) ≤ (b.size : Int)) && decide ((b.size : Int) ≤ 30) && allB alnum b b.size

set_option maxRecDepth 100000 in
set_option maxHeartbeats 1000000 in
theorem parts_any (c b : ByteArray) (w : World) (hc : c.size ≤ 9223372036854775800) (hb : b.size ≤ 9223372036854775800) :
    Calls Tryd.prog 28 #[.string c, .string b] w fun e w' => e = .returned (.bool (prt c b)) ∧ w' = w := by
  have a1 := fun w => all_capital c w hc
  have a2 := fun w => plain_any b w hb
  unfold prt
  cases h1 : ((c.size : Int) == 2)
  · go_enter Tryd.func28, Tryd.ntmps28
    go_wp2
    go_ret
    exact ⟨rfl, rfl⟩
  · cases h2 : allB cap c c.size
    · rw [h2] at a1
      go_enter Tryd.func28, Tryd.ntmps28
      go_wp2_with (go_at_call 35; refine (a1 _).mono ?_; rintro e w' ⟨rfl, rfl⟩)
      go_ret
      exact ⟨rfl, rfl⟩
    · rw [h2] at a1
      cases h3 : decide ((1 : Int) ≤ (b.size : Int))
      · go_enter Tryd.func28, Tryd.ntmps28
        go_wp2_with (go_at_call 35; refine (a1 _).mono ?_; rintro e w' ⟨rfl, rfl⟩)
        go_ret
        exact ⟨rfl, rfl⟩
      · cases h4 : decide ((b.size : Int) ≤ 30)
        · go_enter Tryd.func28, Tryd.ntmps28
          go_wp2_with (go_at_call 35; refine (a1 _).mono ?_; rintro e w' ⟨rfl, rfl⟩)
          go_ret
          exact ⟨rfl, rfl⟩
        · generalize allB alnum b b.size = v at *
          go_enter Tryd.func28, Tryd.ntmps28
          go_wp2_with (first | (go_at_call 35; refine (a1 _).mono ?_; rintro e w' ⟨rfl, rfl⟩) | (go_at_call 46; refine (a2 _).mono ?_; rintro e w' ⟨rfl, rfl⟩))
          go_ret
          exact ⟨rfl, rfl⟩
end Go.Proofs.YtfcalpfpfibbfaaDoor
