/- IdentMakes, walked: whatever the texts and the kind, the law answers true. -/
import Derived.Test.YtfcalpfpfibbfaaDoorLives
namespace Go.Proofs.YtfcalpfpfibbfaaDoor
open Go.RowKit

set_option maxRecDepth 100000 in
set_option maxHeartbeats 1000000 in
theorem makes_walk (B : Nat → Addr) (c b : ByteArray) (k : Int) (w : World) (hE : Env w B) (hc : c.size ≤ 9223372036854775800) (hb : b.size ≤ 9223372036854775800) :
    Calls Tryd.prog 3 #[.string c, .string b, .int .i64 k] w fun e w' => e = .returned (.bool true) ∧ Below w.heap.size w w' := by
  have a1 := fun w => make_any B c b w
  have a2 := fun w => refMake_any c b w hc hb
  have s1 := fun w => system_any k c w hc
  have s2 := fun w => refSystem_any k c w hc
  have s3 := fun w => system_any k b w hb
  have s4 := fun w => refSystem_any k b w hb
  have HE := Lib.hid hE; clear hE
  unfold mkV at a1
  unfold refMkV at a2
  generalize sys k c = x1 at *
  generalize sys k b = x2 at *
  cases hm : mkO c b with
  | none =>
    rw [hm] at a1 a2
    simp only at a1 a2
    clear hm
    go_enter Tryd.func3, Tryd.ntmps3
    go_wp2_with fail
    refine (lives_any B _ (EnvN.mono HE.out (by decide))).mono ?_
    rintro e w1 ⟨rfl, hb1⟩
    have HE1 := Lib.hid (HE.out.below hb1)
    go_wp2_with fail
    refine (a1 _ (EnvN.mono HE1.out (by decide)) hc hb).mono ?_
    rintro e w2 ⟨rfl, hb2⟩
    have HB2 := Lib.hid (hb1.trans (hb2.mono hb1.size)); clear hb1 hb2
    go_wp2_with fail
    refine (a2 _).mono ?_
    rintro e w3 ⟨rfl, hb3⟩
    have HB3 := Lib.hid (HB2.out.trans (hb3.mono HB2.out.size)); clear hb3
    go_wp2_with fail
    have n1 := num_any B w3 (HE.out.below HB3.out) 7 (by decide)
    unfold ev at n1
    refine n1.mono ?_
    rintro e w4 ⟨rfl, hb4⟩
    have HB4 := Lib.hid (HB3.out.trans (hb4.mono HB3.out.size)); clear hb4
    go_wp2_with fail
    refine (s1 _).mono ?_
    rintro e w' ⟨rfl, rfl⟩
    go_wp2_with fail
    refine (s2 _).mono ?_
    rintro e w' ⟨rfl, rfl⟩
    go_wp2_with fail
    refine (s3 _).mono ?_
    rintro e w' ⟨rfl, rfl⟩
    go_wp2_with fail
    refine (s4 _).mono ?_
    rintro e w' ⟨rfl, rfl⟩
    go_wp2_with fail
    go_ret
    exact ⟨rfl, HB4.out⟩
  | some x =>
    rw [hm] at a1 a2
    simp only at a1 a2
    clear hm
    go_enter Tryd.func3, Tryd.ntmps3
    go_wp2_with fail
    refine (lives_any B _ (EnvN.mono HE.out (by decide))).mono ?_
    rintro e w1 ⟨rfl, hb1⟩
    have HE1 := Lib.hid (HE.out.below hb1)
    go_wp2_with fail
    refine (a1 _ (EnvN.mono HE1.out (by decide)) hc hb).mono ?_
    rintro e w2 ⟨rfl, hb2⟩
    have HB2 := Lib.hid (hb1.trans (hb2.mono hb1.size)); clear hb1 hb2
    go_wp2_with fail
    refine (a2 _).mono ?_
    rintro e w3 ⟨rfl, hb3⟩
    have HB3 := Lib.hid (HB2.out.trans (hb3.mono HB2.out.size)); clear hb3
    go_wp2_with fail
    refine (num_nil _).mono ?_
    rintro e w4 ⟨rfl, hb4⟩
    have HB4 := Lib.hid (HB3.out.trans (hb4.mono HB3.out.size)); clear hb4
    go_wp2_with fail
    refine (s1 _).mono ?_
    rintro e w' ⟨rfl, rfl⟩
    go_wp2_with fail
    refine (s2 _).mono ?_
    rintro e w' ⟨rfl, rfl⟩
    go_wp2_with fail
    refine (s3 _).mono ?_
    rintro e w' ⟨rfl, rfl⟩
    go_wp2_with fail
    refine (s4 _).mono ?_
    rintro e w' ⟨rfl, rfl⟩
    go_wp2_with fail
    go_ret
    exact ⟨rfl, HB4.out⟩
end Go.Proofs.YtfcalpfpfibbfaaDoor
