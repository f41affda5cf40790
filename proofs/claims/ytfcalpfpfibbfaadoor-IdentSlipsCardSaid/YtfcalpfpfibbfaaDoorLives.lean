/- ident.Id and lives, walked. -/
import Derived.Test.YtfcalpfpfibbfaaDoorId
namespace Go.Proofs.YtfcalpfpfibbfaaDoor
open Go.RowKit

def idOk (s : ByteArray) : Bool := allB idb s s.size && !decide ((s.size : Int) < 1) && !decide ((32 : Int) < (s.size : Int))
def idV (B : Nat → Addr) (s : ByteArray) : Value := if idOk s then .nilIface else .iface 105 (.pointer (some (B 2)))

set_option maxRecDepth 100000 in
set_option maxHeartbeats 1000000 in
theorem id_any (B : Nat → Addr) (s : ByteArray) (w : World) (hE : Env3 w B) (hs : s.size ≤ 9223372036854775800) : Calls Tryd.prog 21 #[.string s] w fun e w' => e = .returned (idV B s) ∧ w' = w := by
  have c2 := hE.cell 2 (by decide)
  have HE := Lib.hid hE; clear hE
  have a1 := fun w => all_id s w hs
  unfold idV idOk
  cases h1 : allB idb s s.size
  · rw [h1] at a1
    go_enter Tryd.func21, Tryd.ntmps21
    go_wp2_with (go_at_call 35; refine (a1 _).mono ?_; rintro e w' ⟨rfl, rfl⟩)
    go_ret
    exact ⟨rfl, rfl⟩
  · rw [h1] at a1
    cases h2 : decide ((s.size : Int) < 1)
    · cases h3 : decide ((32 : Int) < (s.size : Int))
      · go_enter Tryd.func21, Tryd.ntmps21
        go_wp2_with (go_at_call 35; refine (a1 _).mono ?_; rintro e w' ⟨rfl, rfl⟩)
        go_ret
        exact ⟨rfl, rfl⟩
      · go_enter Tryd.func21, Tryd.ntmps21
        go_wp2_with (go_at_call 35; refine (a1 _).mono ?_; rintro e w' ⟨rfl, rfl⟩)
        go_ret
        exact ⟨rfl, rfl⟩
    · go_enter Tryd.func21, Tryd.ntmps21
      go_wp2_with (go_at_call 35; refine (a1 _).mono ?_; rintro e w' ⟨rfl, rfl⟩)
      go_ret
      exact ⟨rfl, rfl⟩

theorem mk_lives : mkO { data := #[71, 66] } { data := #[87, 69, 83, 84, 49, 50, 51, 52, 53, 54, 57, 56, 55, 54, 53, 52, 51, 50] } = some { data := #[71, 66, 56, 50, 87, 69, 83, 84, 49, 50, 51, 52, 53, 54, 57, 56, 55, 54, 53, 52, 51, 50] } := by kernel_rfl
theorem id_a : idOk { data := #[97] } = true := by kernel_rfl
theorem id_e : idOk { data := #[] } = false := by kernel_rfl

set_option maxRecDepth 100000 in
set_option maxHeartbeats 1000000 in
theorem lives_any (B : Nat → Addr) (w : World) (hE : Env3 w B) : Calls Tryd.prog 9 #[] w fun e w' => e = .returned (.bool true) ∧ Below w.heap.size w w' := by
  have a1 := make_any B { data := #[71, 66] } { data := #[87, 69, 83, 84, 49, 50, 51, 52, 53, 54, 57, 56, 55, 54, 53, 52, 51, 50] } w hE (by decide) (by decide)
  unfold mkV at a1
  rw [mk_lives] at a1
  simp only at a1
  have he := fun w => same_err w (B 2)
  have e1 : idV B { data := #[97] } = .nilIface := by unfold idV; rw [id_a]; rfl
  have e2 : idV B { data := #[] } = .iface 105 (.pointer (some (B 2))) := by unfold idV; rw [id_e]; rfl
  have HE := Lib.hid hE; clear hE
  go_enter Tryd.func9, Tryd.ntmps9
  go_wp2_with fail
  refine a1.mono ?_
  rintro e w1 ⟨rfl, hb⟩
  have HE1 := Lib.hid (HE.out.below hb)
  have c2 := HE1.out.cell 2 (by decide)
  go_wp2_with fail
  go_quiet ((go_at_call 21; exact Calls.quiet_of_same (id_any B _ _ (HE1.out.below (below_drewN (Below.refl _ _) _)) (by decide))))
  go_wp2_with fail
  go_ret
  exact ⟨rfl, below_drewN hb _⟩
end Go.Proofs.YtfcalpfpfibbfaaDoor
