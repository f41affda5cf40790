/- posting.idFits, posting.accountFits: walked. -/
import Derived.Test.YtodekiimkbejnaaGreatDoorBigC
namespace Go.Proofs.YtodekiimkbejnaaGreatDoor
open Go.RowKit

/-- Is the text marked by a '#'? -/
def mrk (s : ByteArray) : Bool := decide ((1 : Int) ≤ (s.size : Int)) && ((s.extract 0 1).toList == ([35] : List UInt8))
/-- A posting's id's own part. -/
def ownId (s : ByteArray) : ByteArray := if mrk s then s.extract 1 s.size else s
set_option maxRecDepth 100000 in
set_option maxHeartbeats 1000000 in
theorem hasPre_any (s : ByteArray) (w : World) : Calls Tryz.prog 72 #[.string s, .string ⟨#[35]⟩] w fun e w' => e = .returned (.bool (mrk s)) ∧ w' = w := by
  unfold mrk
  cases h1 : decide ((1 : Int) ≤ (s.size : Int)) with
  | true =>
    have h1' := of_decide_eq_true h1
    rw [Bool.true_and]
    go_enter Tryz.func72, Tryz.ntmps72
    go_wp2
    go_ret
    exact ⟨rfl, rfl⟩
  | false =>
    rw [Bool.false_and]
    go_enter Tryz.func72, Tryz.ntmps72
    go_wp2
    go_ret
    exact ⟨rfl, rfl⟩
set_option maxRecDepth 100000 in
set_option maxHeartbeats 1000000 in
theorem cutPre1_any (s : ByteArray) (w : World) (hs : s.size ≤ 9223372036854775800) : Calls Tryz.prog 39 #[.string s, .string ⟨#[35]⟩] w fun e w' => e = .returned (.tuple #[.string (ownId s), .bool (mrk s)]) ∧ w' = w := by
  have a1 := hasPre_any s w
  unfold ownId
  cases h : mrk s with
  | true =>
    have h1 : (1 : Int) ≤ (s.size : Int) := by
      unfold mrk at h
      rw [Bool.and_eq_true] at h
      exact of_decide_eq_true h.1
    rw [h] at a1
    rw [if_pos rfl]
    clear h
    go_enter Tryz.func39, Tryz.ntmps39
    go_wp2_with fail
    refine a1.mono ?_
    rintro e w' ⟨rfl, rfl⟩
    go_wp2
    go_ret2
    exact ⟨rfl, rfl⟩
  | false =>
    rw [h] at a1
    rw [if_neg (by decide)]
    clear h
    go_enter Tryz.func39, Tryz.ntmps39
    go_wp2_with fail
    refine a1.mono ?_
    rintro e w' ⟨rfl, rfl⟩
    go_wp2
    go_ret2
    exact ⟨rfl, rfl⟩
set_option maxRecDepth 100000 in
theorem cutPre_any (s : ByteArray) (w : World) (hs : s.size ≤ 9223372036854775800) : Calls Tryz.prog 23 #[.string s, .string ⟨#[35]⟩] w fun e w' => e = .returned (.tuple #[.string (ownId s), .bool (mrk s)]) ∧ w' = w := by
  have a1 := cutPre1_any s w hs
  go_enter Tryz.func23, Tryz.ntmps23
  go_wp2_with fail
  refine a1.mono ?_
  rintro e w' ⟨rfl, rfl⟩
  go_wp2
  go_ret2
  exact ⟨rfl, rfl⟩
/-- May the text be a posting's id? -/
def idFit (s : ByteArray) : Bool := idOk (ownId s) && (!mrk s || decide ((s.size : Int) ≤ 32))
theorem ownId_size (s : ByteArray) : (ownId s).size ≤ s.size := by
  unfold ownId
  split
  · rw [ByteArray.size_extract]; omega
  · exact Nat.le_refl _
set_option maxRecDepth 100000 in
set_option maxHeartbeats 1000000 in
theorem idFits_any (B : Nat → Addr) (s : ByteArray) (w : World) (hE : Env w B) (hs : s.size ≤ 9223372036854775800) : Calls Tryz.prog 15 #[.string s] w fun e w' => e = .returned (.bool (idFit s)) ∧ w' = w := by
  have a1 := cutPre_any s w hs
  have a2 := id_any B (ownId s) w hE (Nat.le_trans (ownId_size s) hs)
  clear hE
  unfold idFit
  unfold idV at a2
  generalize ownId s = t at *
  cases h1 : idOk t with
  | false =>
    rw [h1, if_neg (by decide)] at a2
    rw [Bool.false_and]
    go_enter Tryz.func15, Tryz.ntmps15
    go_wp2_with fail
    refine a1.mono ?_
    rintro e w' ⟨rfl, rfl⟩
    go_wp2_with fail
    refine a2.mono ?_
    rintro e w' ⟨rfl, rfl⟩
    go_wp2
    go_ret
    exact ⟨rfl, rfl⟩
  | true =>
    rw [h1, if_pos rfl] at a2
    rw [Bool.true_and]
    cases h2 : mrk s with
    | false =>
      rw [h2] at a1
      rw [show (!false || decide ((s.size : Int) ≤ 32)) = true from rfl]
      clear h2
      go_enter Tryz.func15, Tryz.ntmps15
      go_wp2_with fail
      refine a1.mono ?_
      rintro e w' ⟨rfl, rfl⟩
      go_wp2_with fail
      refine a2.mono ?_
      rintro e w' ⟨rfl, rfl⟩
      go_wp2
      go_ret
      exact ⟨rfl, rfl⟩
    | true =>
      rw [h2] at a1
      rw [show (!true || decide ((s.size : Int) ≤ 32)) = decide ((s.size : Int) ≤ 32) from rfl]
      clear h2
      go_enter Tryz.func15, Tryz.ntmps15
      go_wp2_with fail
      refine a1.mono ?_
      rintro e w' ⟨rfl, rfl⟩
      go_wp2_with fail
      refine a2.mono ?_
      rintro e w' ⟨rfl, rfl⟩
      go_wp2
      go_ret
      exact ⟨rfl, rfl⟩

/-- The place of the first dot; none: -1. -/
def dot (s : ByteArray) : Int := firstIdx s 46
theorem dot_le (s : ByteArray) : -1 ≤ dot s ∧ dot s < s.size := by
  unfold dot firstIdx
  split
  · rename_i i hi
    have := List.mem_range.1 (List.mem_of_find?_eq_some hi)
    omega
  · omega
theorem run_indexByte (s : ByteArray) (w : World) : (callFunc 108 #[.string s, .int .u8 46]).run Tryz.prog w = .ok (.value (.int .i64 (dot s))) w := by
  rw [run_callFunc_extern (e := Extern.BytealgIndexByte.indexByte) Tryz.func108 (by kernel_rfl) (by kernel_rfl) (by kernel_rfl) (by kernel_rfl), run_indexByte_string s 46 w]
  rfl
end Go.Proofs.YtodekiimkbejnaaGreatDoor
