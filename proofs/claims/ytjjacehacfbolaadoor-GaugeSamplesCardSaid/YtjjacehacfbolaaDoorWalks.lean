/- The walks of package gauge: Good and Sample. -/
import Derived.Test.YtjjacehacfbolaaDoorRows
import Derived.Test.YtjjacehacfbolaaDoorFloat
import Derived.WalkKit
import Derived.WalkLawsBesides
import Derived.Laws.FloatArith
import Derived.Laws.Externs
import Derived.Lib.Hide
import Derived.ProofKit
import Derived.OpenShut
namespace Go.Proofs.YtjjacehacfbolaaDoor
open Go.RowKit

theorem fgood {b : Nat} (hb : b < 4294967296) : ((FloatKind.f32.format.order b 0 == some .gt || FloatKind.f32.format.order b 0 == some .eq) && (FloatKind.f32.format.order b 1065353216 == some .lt || FloatKind.f32.format.order b 1065353216 == some .eq)) = Rnd.good b := Rnd.good_eq hb

theorem ret_b {a b : Bool} (h : a = b) : Ending.returned (.bool a) = .returned (.bool b) := by rw [h]

set_option maxHeartbeats 400000 in
theorem good_any (b : Nat) (w : World) (hb : b < 4294967296) :
    Calls Tryd.prog 6 #[.float .f32 b] w fun e w' => e = .returned (.bool (Rnd.good b)) ∧ w = w' := by
  have h := fgood hb
  have H := Lib.hid h; clear h
  go_enter Tryd.func6, Tryd.ntmps6
  go_wp2
  · go_ret
    rename_i h1
    refine ⟨ret_b ?_, rfl⟩
    have h := H.out
    rw [show (FloatKind.f32.format.order b 0 == some .gt || FloatKind.f32.format.order b 0 == some .eq) = true from by simpa using h1] at h
    rw [show (FloatKind.f32.format.order b 0 == some .gt || FloatKind.f32.format.order b 0 == some .eq) = true from by simpa using h1]
    exact h
  · go_ret
    rename_i h1
    refine ⟨ret_b ?_, rfl⟩
    have h := H.out
    rw [show (FloatKind.f32.format.order b 0 == some .gt || FloatKind.f32.format.order b 0 == some .eq) = false from by simpa using h1, Bool.false_and] at h
    exact h

theorem run_frombits (n : Int) (w : World) : (callFunc 14 #[.int .u32 n]).run Tryd.prog w = .ok (.value (.float .f32 n.toNat)) w := by
  rw [run_callFunc_extern (e := Extern.MathFloatBits.float32frombits) Tryd.func14 (by kernel_rfl) (by kernel_rfl) (by kernel_rfl) (by kernel_rfl)]
  rfl

theorem of_any (b : Int) (w : World) : Calls Tryd.prog 5 #[.int .u32 b] w fun e w' => e = .returned (.float .f32 b.toNat) ∧ w = w' := by
  have h := run_frombits
  go_enter Tryd.func5, Tryd.ntmps5
  go_wp2
  go_ret
  exact ⟨rfl, rfl⟩

theorem conv_same (b : Nat) (w : World) : (convert 25 25 (.float .f32 b)).run Tryd.prog w = .ok (.float .f32 b) w :=
  run_convert_float_float w 25 25 .f32 .f32 b b (by kernel_rfl) (by kernel_rfl) rfl

theorem mul_half (n : Int) (c : Nat) (h : Ieee.single.mul (floatOfInt .f32 n) 1031798784 = some c) (w : World) : (binOp .mul 25 (.float .f32 (floatOfInt .f32 n)) (.float .f32 1031798784)).run Tryd.prog w = .ok (.float .f32 c) w :=
  run_float_arith w .mul 25 .f32 (floatOfInt .f32 n) 1031798784 c h

theorem sample_two (b : Nat) (x : Int) (w : World) (hb : b < 4294967296) :
    Calls Tryd.prog 10 #[.float .f32 b, .int .i64 x] w fun e w' => e = .returned (.float .f32 (Rnd.samp (Rnd.hp b) (Rnd.clampN x))) ∧ w = w' := by
  obtain ⟨o, h1, h2, h3, h4⟩ := Rnd.sample_steps3 (Rnd.hp_good b)
  have hm : ∀ w, (binOp .mul 25 (.float .f32 (Rnd.hp b)) (.float .f32 1063256064)).run Tryd.prog w = .ok (.float .f32 o) w := fun w => run_float_arith w .mul 25 .f32 (Rnd.hp b) 1063256064 o h1
  have ha0 : ∀ w, (binOp .add 25 (.float .f32 o) (.float .f32 0)).run Tryd.prog w = .ok (.float .f32 (Rnd.samp (Rnd.hp b) 0)) w := fun w => run_float_arith w .add 25 .f32 o 0 _ h2
  have ha1 : ∀ w, (binOp .add 25 (.float .f32 o) (.float .f32 1031798784)).run Tryd.prog w = .ok (.float .f32 (Rnd.samp (Rnd.hp b) 1)) w := fun w => run_float_arith w .add 25 .f32 o _ _ h3
  have ha2 : ∀ w, (binOp .add 25 (.float .f32 o) (.float .f32 1040187392)).run Tryd.prog w = .ok (.float .f32 (Rnd.samp (Rnd.hp b) 2)) w := fun w => run_float_arith w .add 25 .f32 o _ _ h4
  have k0 := mul_half 0 0 (by decide)
  have k1 := mul_half 1 1031798784 (by decide)
  have k2 := mul_half 2 1040187392 (by decide)
  have hc := conv_same
  have H1 := Lib.hid h1; clear h1
  have H2 := Lib.hid h2; clear h2
  have H3 := Lib.hid h3; clear h3
  have H4 := Lib.hid h4; clear h4
  have hx : x < 0 ∨ x = 0 ∨ x = 1 ∨ x = 2 ∨ 2 < x := by omega
  by_cases hg : Rnd.good b = true
  · have e : Rnd.hp b = b := by unfold Rnd.hp; rw [if_pos hg]
    rw [e] at hm ha0 ha1 ha2 ⊢
    have HE := Lib.hid e; clear e
    rcases hx with hx | rfl | rfl | rfl | hx
    · have e : Rnd.clampN x = 0 := by unfold Rnd.clampN; rw [if_pos (by omega)]
      rw [e]; clear e
      go_enter Tryd.func10, Tryd.ntmps10
      go_wp2_with (go_at_call 6; refine (good_any _ _ hb).mono ?_; rintro e w' ⟨rfl, rfl⟩)
      go_ret
      exact ⟨rfl, rfl⟩
    · go_enter Tryd.func10, Tryd.ntmps10
      go_wp2_with (go_at_call 6; refine (good_any _ _ hb).mono ?_; rintro e w' ⟨rfl, rfl⟩)
      go_ret
      exact ⟨rfl, rfl⟩
    · go_enter Tryd.func10, Tryd.ntmps10
      go_wp2_with (go_at_call 6; refine (good_any _ _ hb).mono ?_; rintro e w' ⟨rfl, rfl⟩)
      go_ret
      exact ⟨rfl, rfl⟩
    · go_enter Tryd.func10, Tryd.ntmps10
      go_wp2_with (go_at_call 6; refine (good_any _ _ hb).mono ?_; rintro e w' ⟨rfl, rfl⟩)
      go_ret
      exact ⟨rfl, rfl⟩
    · have e : Rnd.clampN x = 2 := by unfold Rnd.clampN; rw [if_neg (by omega), if_neg (by omega)]
      rw [e]; clear e
      go_enter Tryd.func10, Tryd.ntmps10
      go_wp2_with (go_at_call 6; refine (good_any _ _ hb).mono ?_; rintro e w' ⟨rfl, rfl⟩)
      go_ret
      exact ⟨rfl, rfl⟩
  · have e : Rnd.hp b = 1065353216 := by unfold Rnd.hp; rw [if_neg hg]
    have hg' : Rnd.good b = false := by simpa using hg
    clear hg
    rw [e] at hm ha0 ha1 ha2 ⊢
    have HE := Lib.hid e; clear e
    rcases hx with hx | rfl | rfl | rfl | hx
    · have e : Rnd.clampN x = 0 := by unfold Rnd.clampN; rw [if_pos (by omega)]
      rw [e]; clear e
      go_enter Tryd.func10, Tryd.ntmps10
      go_wp2_with (go_at_call 6; refine (good_any _ _ hb).mono ?_; rintro e w' ⟨rfl, rfl⟩)
      go_ret
      exact ⟨rfl, rfl⟩
    · go_enter Tryd.func10, Tryd.ntmps10
      go_wp2_with (go_at_call 6; refine (good_any _ _ hb).mono ?_; rintro e w' ⟨rfl, rfl⟩)
      go_ret
      exact ⟨rfl, rfl⟩
    · go_enter Tryd.func10, Tryd.ntmps10
      go_wp2_with (go_at_call 6; refine (good_any _ _ hb).mono ?_; rintro e w' ⟨rfl, rfl⟩)
      go_ret
      exact ⟨rfl, rfl⟩
    · go_enter Tryd.func10, Tryd.ntmps10
      go_wp2_with (go_at_call 6; refine (good_any _ _ hb).mono ?_; rintro e w' ⟨rfl, rfl⟩)
      go_ret
      exact ⟨rfl, rfl⟩
    · have e : Rnd.clampN x = 2 := by unfold Rnd.clampN; rw [if_neg (by omega), if_neg (by omega)]
      rw [e]; clear e
      go_enter Tryd.func10, Tryd.ntmps10
      go_wp2_with (go_at_call 6; refine (good_any _ _ hb).mono ?_; rintro e w' ⟨rfl, rfl⟩)
      go_ret
      exact ⟨rfl, rfl⟩

theorem start_any (w : World) : Calls Tryd.prog 13 #[] w fun e w' => e = .returned (.float .f32 1065353216) ∧ w = w' := by
  go_enter Tryd.func13, Tryd.ntmps13
  go_wp2
  go_ret
  exact ⟨rfl, rfl⟩

theorem lives_any (w : World) : Calls Tryd.prog 4 #[] w fun e w' => e = .returned (.bool true) ∧ w = w' := by
  go_enter Tryd.func4, Tryd.ntmps4
  go_wp2_with (first | (go_at_call 13; refine (start_any _).mono ?_; rintro e w' ⟨rfl, rfl⟩) | (go_at_call 10; refine (sample_two _ _ _ (by decide)).mono ?_; rintro e w' ⟨rfl, rfl⟩) | (go_at_call 6; refine (good_any _ _ (by decide)).mono ?_; rintro e w' ⟨rfl, rfl⟩))
  go_ret
  refine ⟨ret_b ?_, rfl⟩
  decide
end Go.Proofs.YtjjacehacfbolaaDoor
