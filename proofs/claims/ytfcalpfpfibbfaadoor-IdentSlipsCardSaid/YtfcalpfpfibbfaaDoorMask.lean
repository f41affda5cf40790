/- ident.Mask and the reference's Mask: walked. -/
import Derived.Test.YtfcalpfpfibbfaaDoorStr
import Derived.Test.YtfcalpfpfibbfaaDoorShelf
import Derived.Deep.DeepFit
namespace Go.Proofs.YtfcalpfpfibbfaaDoor
open Go.RowKit

/-- The masked byte at place i. -/
def mskB (s : ByteArray) (i : Nat) : Int := if 8 < s.size ∧ (i < 4 ∨ s.size - 4 ≤ i) then byt s i else 42
def mskL (s : ByteArray) : Nat → List Int
  | 0 => []
  | k + 1 => mskL s k ++ [mskB s k]
theorem mskL_length (s : ByteArray) : ∀ k, (mskL s k).length = k
  | 0 => rfl
  | k + 1 => by unfold mskL; rw [List.length_append, mskL_length s k]; rfl
theorem mskL_at (s : ByteArray) : ∀ k i (h : i < (mskL s k).length), (mskL s k)[i] = mskB s i
  | 0, i, h => by simp [mskL] at h
  | k + 1, i, h => by
    have hl := mskL_length s k
    rw [mskL_length] at h
    unfold mskL
    by_cases e : i < k
    · rw [List.getElem_append_left (by omega)]; exact mskL_at s k i (by omega)
    · obtain rfl : i = k := by omega
      rw [List.getElem_append_right (by omega)]
      simp [hl]
def mskS (s : ByteArray) : ByteArray := strOfNums (mskL s s.size)
theorem mskS_size (s : ByteArray) : (mskS s).size = s.size := by unfold mskS; rw [strOfNums_size, mskL_length]
theorem byt_mskS {s : ByteArray} {i : Nat} (h : i < s.size) : (byt (mskS s) i : Int) = mskB s i := by
  unfold mskS
  rw [byt_nums (by rw [mskL_length]; exact h), mskL_at]
  have := byt_lt s i
  unfold mskB
  split <;> omega
theorem msk_short {s : ByteArray} (h : s.size ≤ 8) : mskS s = repS 42 s.size := by
  apply byt_ext
  · rw [mskS_size, repS_size]
  · intro i hi
    rw [mskS_size] at hi
    have := byt_mskS hi
    rw [byt_repS hi]
    unfold mskB at this
    rw [if_neg (by omega)] at this
    have : (42 : UInt8).toNat = 42 := rfl
    omega
theorem msk_long {s : ByteArray} (h : 8 < s.size) : mskS s = s.extract 0 4 ++ repS 42 (s.size - 8) ++ s.extract (s.size - 4) s.size := by
  have z1 := ext_size s 0 4 (by omega)
  have z2 := ext_size s (s.size - 4) s.size (by omega)
  have z3 := repS_size 42 (s.size - 8)
  have z4 : (s.extract 0 4 ++ repS 42 (s.size - 8)).size = s.size - 4 := by rw [ByteArray.size_append, z1, z3]; omega
  apply byt_ext
  · rw [mskS_size, ByteArray.size_append, z4, z2]; omega
  · intro i hi
    rw [mskS_size] at hi
    have hm := byt_mskS hi
    unfold mskB at hm
    by_cases h1 : i < 4
    · rw [if_pos ⟨h, .inl h1⟩] at hm
      rw [byt_app_left (by omega), byt_app_left (by omega), byt_extract (by omega) (by omega), Nat.zero_add]
      omega
    · by_cases h2 : i < s.size - 4
      · rw [if_neg (by omega)] at hm
        rw [byt_app_left (by omega), byt_app_right (by omega), byt_repS (by omega)]
        have : (42 : UInt8).toNat = 42 := rfl
        omega
      · rw [if_pos ⟨h, .inr (by omega)⟩] at hm
        rw [byt_app_right (by omega), byt_extract (by omega) (by omega), z4, show s.size - 4 + (i - (s.size - 4)) = i by omega]
        omega

theorem rep_any (c : Nat) (w : World) (hc : c ≤ 140737488355328) : Calls Tryd.prog 37 #[.string { data := #[42] }, .int .i64 c] w fun e w' => e = .returned (.string (repS 42 c)) ∧ Below w.heap.size w w' :=
  Tryd.strings_Repeat { data := #[42] } c w (by omega) (by show 1 * c ≤ _; omega)

set_option maxRecDepth 100000 in
set_option maxHeartbeats 1000000 in
theorem mask_any (s : ByteArray) (w : World) (hs : s.size ≤ 140737488355328) : Calls Tryd.prog 19 #[.string s] w fun e w' => e = .returned (.string (mskS s)) ∧ Below w.heap.size w w' := by
  rcases (show (s.size : Int) ≤ 8 ∨ (8 : Int) < (s.size : Int) by omega) with h8 | h8
  · rw [msk_short (by omega)]
    have a1 := fun w => rep_any s.size w hs
    generalize repS 42 s.size = r at *
    go_enter Tryd.func19, Tryd.ntmps19
    go_wp2_with (go_at_call 37; refine (a1 _).mono ?_; rintro e w' ⟨rfl, hb⟩)
    go_ret
    exact ⟨rfl, hb⟩
  · rw [msk_long (by omega)]
    have a1 := Lib.hid (rep_any (s.size - 8) w.drew (by omega))
    have hw8 : IntKind.i64.wrap ((s.size : Int) - 8) = ((s.size - 8 : Nat) : Int) := by rw [IntKind.wrap_i64]; omega
    have hw4 : IntKind.i64.wrap ((s.size : Int) - 4) = ((s.size - 4 : Nat) : Int) := by rw [IntKind.wrap_i64]; omega
    have z1 := ext_size s 0 4 (by omega)
    have z2 := ext_size s (s.size - 4) s.size (by omega)
    have z3 := repS_size 42 (s.size - 8)
    generalize repS 42 (s.size - 8) = r at *
    go_enter Tryd.func19, Tryd.ntmps19
    go_wp2_with fail
    go_region_with (go_at_call 37; go_fit a1.out; rintro e w' ⟨rfl, hb⟩)
    all_goals
      have hb := EnvN.same (n := 1) hb
      go_wp2
      go_ret
      exact ⟨rfl, hb⟩
end Go.Proofs.YtfcalpfpfibbfaaDoor
