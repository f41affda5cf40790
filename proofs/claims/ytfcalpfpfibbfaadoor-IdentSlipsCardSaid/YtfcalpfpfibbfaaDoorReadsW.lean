/- IdentReads, walked: whatever the text, the law answers true. -/
import Derived.Test.YtfcalpfpfibbfaaDoorRefMask
namespace Go.Proofs.YtfcalpfpfibbfaaDoor
open Go.RowKit

def nmS (s : ByteArray) : ByteArray := if chk (nrmS s) = 0 then nrmS s else ⟨#[]⟩
theorem normV_eq (B : Nat → Addr) (s : ByteArray) : normV B s = .tuple #[.string (nmS s), ev B (chk (nrmS s))] := by
  unfold normV nmS
  by_cases h : chk (nrmS s) = 0
  · rw [if_pos h, if_pos h, h]; rfl
  · rw [if_neg h, if_neg h]
theorem refNormV_eq (s : ByteArray) : refNormV s = .tuple #[.string (nmS s), .int .i64 (chk (nrmS s))] := by
  unfold refNormV nmS
  by_cases h : chk (nrmS s) = 0
  · rw [if_pos h, if_pos h, h]; rfl
  · rw [if_neg h, if_neg h]
theorem chk_le (s : ByteArray) : chk s ≤ 37 := by rcases chk_three s with h | h | h <;> omega
theorem idE_le (s : ByteArray) : idE s ≤ 37 := by unfold idE; split <;> omega

set_option maxRecDepth 100000 in
set_option maxHeartbeats 1000000 in
theorem reads_walk (B : Nat → Addr) (s : ByteArray) (w : World) (hE : Env w B) (hs : s.size ≤ 140737488355328) :
    Calls Tryd.prog 5 #[.string s] w fun e w' => e = .returned (.bool true) ∧ Below w.heap.size w w' := by
  have a1 := fun w h => normal_any B s w h hs
  have a2 := fun w => refNormal_any s w hs
  have a3 := fun w h => check_any B s w h (by omega)
  have a4 := fun w => refCheck_any s w (by omega)
  have a5 := fun w => mask_any s w hs
  have a6 := fun w => refMask_any s w hs
  have a7 := fun w h => id_any B s w h (by omega)
  have a8 := fun w => refId_any s w (by omega)
  have l1 := chk_le (nrmS s)
  have l2 := chk_le s
  have l3 := idE_le s
  rw [normV_eq] at a1
  rw [refNormV_eq] at a2
  rw [idV_ev] at a7
  have n1 := fun w h => num_any B w h (chk (nrmS s)) l1
  have n2 := fun w h => num_any B w h (chk s) l2
  have n3 := fun w h => num_any B w h (idE s) l3
  have HE := Lib.hid hE; clear hE
  generalize chk (nrmS s) = c1 at *
  generalize chk s = c2 at *
  generalize idE s = c3 at *
  generalize nmS s = t at *
  generalize mskS s = m at *
  generalize ev B c1 = v1 at *
  generalize ev B c2 = v2 at *
  generalize ev B c3 = v3 at *
  go_enter Tryd.func5, Tryd.ntmps5
  go_wp2_with fail
  refine (lives_any B _ (EnvN.sub HE.out (by decide))).mono ?_
  rintro e w1 ⟨rfl, hb1⟩
  have HB1 := Lib.hid hb1; clear hb1
  go_wp2_with fail
  refine (a1 _ (EnvN.sub (HE.out.below HB1.out) (by decide))).mono ?_
  rintro e w2 ⟨rfl, hb2⟩
  have HB2 := Lib.hid (HB1.out.trans (hb2.mono HB1.out.size)); clear hb2
  go_wp2_with fail
  refine (a2 _).mono ?_
  rintro e w3 ⟨rfl, hb3⟩
  have HB3 := Lib.hid (HB2.out.trans (hb3.mono HB2.out.size)); clear hb3
  go_wp2_with fail
  refine (n1 _ (HE.out.below HB3.out)).mono ?_
  rintro e w4 ⟨rfl, hb4⟩
  have HB4 := Lib.hid (HB3.out.trans (hb4.mono HB3.out.size)); clear hb4
  go_wp2_with fail
  refine (a3 _ (EnvN.sub (HE.out.below HB4.out) (by decide))).mono ?_
  rintro e w5 ⟨rfl, hb5⟩
  have HB5 := Lib.hid (HB4.out.trans (hb5.mono HB4.out.size)); clear hb5
  go_wp2_with fail
  refine (n2 _ (HE.out.below HB5.out)).mono ?_
  rintro e w6 ⟨rfl, hb6⟩
  have HB6 := Lib.hid (HB5.out.trans (hb6.mono HB5.out.size)); clear hb6
  go_wp2_with fail
  refine (a4 _).mono ?_
  rintro e w7 ⟨rfl, hb7⟩
  have HB7 := Lib.hid (HB6.out.trans (hb7.mono HB6.out.size)); clear hb7
  go_wp2_with fail
  refine (a5 _).mono ?_
  rintro e w8 ⟨rfl, hb8⟩
  have HB8 := Lib.hid (HB7.out.trans (hb8.mono HB7.out.size)); clear hb8
  go_wp2_with fail
  refine (a6 _).mono ?_
  rintro e w9 ⟨rfl, hb9⟩
  have HB9 := Lib.hid (HB8.out.trans (hb9.mono HB8.out.size)); clear hb9
  go_wp2_with fail
  refine (a7 _ (EnvN.sub (HE.out.below HB9.out) (by decide))).mono ?_
  rintro e w' ⟨rfl, rfl⟩
  go_wp2_with fail
  refine (n3 _ (HE.out.below HB9.out)).mono ?_
  rintro e w10 ⟨rfl, hb10⟩
  have HB10 := Lib.hid (HB9.out.trans (hb10.mono HB9.out.size)); clear hb10
  go_wp2_with fail
  refine (a8 _).mono ?_
  rintro e w' ⟨rfl, rfl⟩
  go_wp2_with fail
  go_ret
  exact ⟨rfl, HB10.out⟩
end Go.Proofs.YtfcalpfpfibbfaaDoor
