/- strings.Cut at a point: walked. -/
import Derived.Test.YthkobjbemmllfaaGreatDoorTextsP
import Derived.Laws.Externs
import Derived.Lib.Bytealg
import Derived.BigQuiet
import Derived.Deep.QuietTactic
import Derived.Lib.Hide
namespace Go.Proofs.YthkobjbemmllfaaGreatDoor
open Go.RowKit
/-- The place of the first dot; none: -1. -/
def dot (s : ByteArray) : Int := firstIdx s 46
theorem dot_le (s : ByteArray) : -1 ≤ dot s ∧ dot s < s.size := by
  unfold dot firstIdx
  split
  · rename_i i hi
    have := List.mem_range.1 (List.mem_of_find?_eq_some hi)
    omega
  · omega
theorem run_indexByte (s : ByteArray) (w : World) : (callFunc 139 #[.string s, .int .u8 46]).run Tryz.prog w = .ok (.value (.int .i64 (dot s))) w := by
  rw [run_callFunc_extern (e := Extern.BytealgIndexByte.indexByte) Tryz.func139 (by kernel_rfl) (by kernel_rfl) (by kernel_rfl) (by kernel_rfl), run_indexByte_string s 46 w]
  rfl
theorem dot_dot : dot ⟨#[46]⟩ = 0 := by kernel_rfl
set_option maxRecDepth 100000 in
theorem indexByte_any (s : ByteArray) (w : World) : Calls Tryz.prog 112 #[.string s, .int .u8 46] w fun e w' => e = .returned (.int .i64 (dot s)) ∧ w' = w := by
  have k := run_indexByte s
  go_enter Tryz.func112, Tryz.ntmps112
  go_wp2
  go_ret
  exact ⟨rfl, rfl⟩
set_option maxRecDepth 100000 in
set_option maxHeartbeats 1000000 in
theorem index_any (s : ByteArray) (w : World) : Calls Tryz.prog 73 #[.string s, .string ⟨#[46]⟩] w fun e w' => e = .returned (.int .i64 (dot s)) ∧ w' = w := by
  cases h : (([46] : List UInt8) == s.toList) with
  | true =>
    have hl := eq_of_beq h
    rw [ByteArray.toList_eq] at hl
    obtain rfl : s = ⟨#[46]⟩ := by
      obtain ⟨⟨l⟩⟩ := s
      have hl2 : [46] = l := hl
      rw [← hl2]
    rw [dot_dot]
    clear h hl
    go_enter Tryz.func73, Tryz.ntmps73
    go_wp2
    go_ret
    exact ⟨rfl, rfl⟩
  | false =>
    have a1 := indexByte_any s w
    generalize dot s = d at *
    go_enter Tryz.func73, Tryz.ntmps73
    go_wp2_with fail
    refine a1.mono ?_
    rintro e w' ⟨rfl, rfl⟩
    go_wp2
    go_ret
    exact ⟨rfl, rfl⟩
/-- What stands behind the first dot. -/
def code (s : ByteArray) : ByteArray := if decide ((0 : Int) ≤ dot s) then s.extract (dot s + 1).toNat s.size else ⟨#[]⟩
def pref (s : ByteArray) : ByteArray := if decide ((0 : Int) ≤ dot s) then s.extract 0 (dot s).toNat else s
set_option maxRecDepth 100000 in
set_option maxHeartbeats 1000000 in
theorem cut1_any (s : ByteArray) (w : World) (hs : s.size ≤ 9223372036854775000) : Calls Tryz.prog 63 #[.string s, .string ⟨#[46]⟩] w fun e w' => e = .returned (.tuple #[.string (pref s), .string (code s), .bool (decide ((0 : Int) ≤ dot s))]) ∧ ∃ k, w' = w.drewN k := by
  have a1 := index_any s w
  obtain ⟨h1, h2⟩ := dot_le s
  unfold pref code
  cases h : decide ((0 : Int) ≤ dot s) with
  | true =>
    obtain ⟨d, hd⟩ := Int.eq_ofNat_of_zero_le (of_decide_eq_true h)
    rw [hd] at a1 h2 ⊢
    rw [if_pos rfl, if_pos rfl, Int.toNat_natCast, show ((d : Int) + 1).toNat = d + 1 by omega]
    have h3 : (d : Int) + 1 ≤ (s.size : Int) := by omega
    have h4 : d + 1 ≤ s.size := by omega
    clear h h1 hd
    go_enter Tryz.func63, Tryz.ntmps63
    go_wp2_with fail
    refine a1.mono ?_
    rintro e w' ⟨rfl, rfl⟩
    go_wp2
    go_quiet (fail)
    go_wp2
    go_ret3
    exact ⟨rfl, _, rfl⟩
  | false =>
    rw [if_neg (by decide), if_neg (by decide)]
    have h3 : ¬ (0 : Int) ≤ dot s := of_decide_eq_false h
    clear h1 h2
    generalize dot s = d at *
    go_enter Tryz.func63, Tryz.ntmps63
    go_wp2_with fail
    refine a1.mono ?_
    rintro e w' ⟨rfl, rfl⟩
    go_wp2
    go_ret3
    exact ⟨rfl, 0, rfl⟩
set_option maxRecDepth 100000 in
theorem cut_any (s : ByteArray) (w : World) (hs : s.size ≤ 9223372036854775000) : Calls Tryz.prog 28 #[.string s, .string ⟨#[46]⟩] w fun e w' => e = .returned (.tuple #[.string (pref s), .string (code s), .bool (decide ((0 : Int) ≤ dot s))]) ∧ ∃ k, w' = w.drewN k := by
  have a1 := cut1_any s w hs
  generalize decide ((0 : Int) ≤ dot s) = b at *
  go_enter Tryz.func28, Tryz.ntmps28
  go_wp2_with fail
  refine a1.mono ?_
  rintro e w' ⟨rfl, k, rfl⟩
  go_wp2
  go_ret3
  exact ⟨rfl, k, rfl⟩

theorem indexByte_cut46 : ∀ l, Lib.indexByte l 46 = if (cut46 l).2.2 = true then ((cut46 l).1.length : Int) else -1
  | [] => rfl
  | c :: r => by
    have ih := indexByte_cut46 r
    unfold Lib.indexByte cut46
    by_cases h : c = 46
    · rw [if_pos (by simpa using h), if_pos h]; rfl
    · rw [if_neg (by simpa using h), if_neg h, ih]
      cases hp : (cut46 r).2.2 with
      | true =>
        rw [if_pos rfl, if_neg (by simp)]
        simp
      | false => rfl
theorem cut46_take {l : List UInt8} (h : (cut46 l).2.2 = true) : l.take (cut46 l).1.length = (cut46 l).1 ∧ l.drop ((cut46 l).1.length + 1) = (cut46 l).2.1 ∧ (cut46 l).1.length + 1 ≤ l.length := by
  have e := cut46_eq l
  rw [if_pos h] at e
  generalize (cut46 l).1 = L at *
  generalize (cut46 l).2.1 = R at *
  rw [e]
  refine ⟨List.take_left, ?_, by simp⟩
  rw [show L.length + 1 = L.length + 1 from rfl, ← List.drop_drop, List.drop_left]
  rfl
theorem cutdot_any (l : List UInt8) (w : World) (hs : l.length ≤ 9223372036854775000) : Calls Tryz.prog 28 #[.string ⟨l.toArray⟩, .string ⟨#[46]⟩] w fun e w' => e = .returned (.tuple #[.string ⟨(cut46 l).1.toArray⟩, .string ⟨(cut46 l).2.1.toArray⟩, .bool (cut46 l).2.2]) ∧ ∃ k, w' = w.drewN k := by
  have a := cut_any ⟨l.toArray⟩ w (by simpa [ByteArray.size] using hs)
  have hd : dot ⟨l.toArray⟩ = if (cut46 l).2.2 = true then ((cut46 l).1.length : Int) else -1 := by
    unfold dot
    rw [Lib.firstIdx_eq]
    exact indexByte_cut46 l
  have hsz : (⟨l.toArray⟩ : ByteArray).size = l.length := by simp [ByteArray.size]
  unfold pref code at a
  cases hp : (cut46 l).2.2 with
  | true =>
    obtain ⟨t1, t2, t3⟩ := cut46_take hp
    rw [hp, if_pos rfl] at hd
    have hdd : decide ((0 : Int) ≤ dot ⟨l.toArray⟩) = true := decide_eq_true (by rw [hd]; omega)
    rw [hdd, if_pos rfl, if_pos rfl, hd, hsz] at a
    have e1 : (⟨l.toArray⟩ : ByteArray).extract 0 ((cut46 l).1.length : Int).toNat = ⟨(cut46 l).1.toArray⟩ := by
      apply ByteArray.ext
      simp [List.extract_eq_take_drop, t1]
    have e2 : (⟨l.toArray⟩ : ByteArray).extract (((cut46 l).1.length : Int) + 1).toNat l.length = ⟨(cut46 l).2.1.toArray⟩ := by
      apply ByteArray.ext
      rw [show (((cut46 l).1.length : Int) + 1).toNat = (cut46 l).1.length + 1 by omega]
      simp [List.extract_eq_take_drop, ← t2]
      rw [List.take_of_length_le (by simp)]
    rw [e1, e2] at a
    exact a
  | false =>
    rw [hp, if_neg (by decide)] at hd
    have hdd : decide ((0 : Int) ≤ dot ⟨l.toArray⟩) = false := decide_eq_false (by rw [hd]; omega)
    rw [hdd, if_neg (by decide), if_neg (by decide)] at a
    have e := cut46_eq l
    rw [hp, if_neg (by decide)] at e
    have hr := cut46_right (l := l) hp
    rw [hr, List.append_nil] at e
    rw [hr, ← e]
    exact a
end Go.Proofs.YthkobjbemmllfaaGreatDoor
