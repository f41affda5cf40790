/- strings.Replace of the first point by nothing: walked. -/
import Derived.Test.YthkobjbemmllfaaGreatDoorCutDot
import Derived.Test.YthkobjbemmllfaaGreatDoorBld
import Derived.Test.YthkobjbemmllfaaGreatDoorBig2
import Derived.Deep.DeepCutAuto
namespace Go.Proofs.YthkobjbemmllfaaGreatDoor
open Go.RowKit

set_option maxRecDepth 100000 in
theorem sindex_any (s : ByteArray) (w : World) : Calls Tryz.prog 33 #[.string s, .string ⟨#[46]⟩] w fun e w' => e = .returned (.int .i64 (dot s)) ∧ w' = w := by
  have a1 := index_any s w
  generalize dot s = d at *
  go_enter Tryz.func33, Tryz.ntmps33
  go_wp2_with fail
  refine a1.mono ?_
  clear a1
  rintro e w' ⟨rfl, rfl⟩
  go_wp2
  go_ret
  exact ⟨rfl, rfl⟩
theorem count_cut46 : ∀ l, Lib.countByte l 46 = 0 ↔ (cut46 l).2.2 = false
  | [] => by simp [Lib.countByte, cut46]
  | c :: r => by
    have ih := count_cut46 r
    unfold Lib.countByte at *
    unfold cut46
    by_cases h : c = 46
    · rw [if_pos h, h]; simp
    · rw [if_neg h, List.count_cons_of_ne (by simpa using h)]; exact ih
set_option maxRecDepth 100000 in
set_option maxHeartbeats 2000000 in
theorem replace_none (l : List UInt8) (w : World) (hp : (cut46 l).2.2 = false) :
    Calls Tryz.prog 15 #[.string ⟨l.toArray⟩, .string ⟨#[46]⟩, .string ⟨#[]⟩, .int .i64 1] w fun e w' => e = .returned (.string ⟨l.toArray⟩) ∧ w = w' := by
  have a1 := Tryz.strings_Count_one ⟨l.toArray⟩ 46 w
  rw [show Lib.countByte (⟨l.toArray⟩ : ByteArray).data.toList 46 = 0 from (count_cut46 l).2 hp] at a1
  clear hp
  generalize (⟨l.toArray⟩ : ByteArray) = s at *
  go_enter Tryz.func15, Tryz.ntmps15
  go_wp2_with fail
  refine a1.mono ?_
  clear a1
  rintro e w' ⟨rfl, rfl⟩
  go_wp2
  go_ret
  exact ⟨rfl, rfl⟩
set_option maxRecDepth 100000 in
set_option maxHeartbeats 4000000 in
theorem replace_point (l : List UInt8) (w : World) (hs : l.length ≤ 140737488355328) (hp : (cut46 l).2.2 = true) :
    Calls Tryz.prog 15 #[.string ⟨l.toArray⟩, .string ⟨#[46]⟩, .string ⟨#[]⟩, .int .i64 1] w fun e w' => e = .returned (.string ⟨((cut46 l).1 ++ (cut46 l).2.1).toArray⟩) ∧ Below w.heap.size w w' := by
  obtain ⟨m, hm⟩ : ∃ m, m = Lib.countByte l 46 := ⟨_, rfl⟩
  have a1 : Calls Tryz.prog 31 #[.string ⟨l.toArray⟩, .string ⟨#[46]⟩] w fun e w' => e = .returned (.int .i64 m) ∧ w = w' := by
    rw [hm]
    exact (Tryz.strings_Count_one ⟨l.toArray⟩ 46 w).mono fun _ _ h => ⟨h.1, h.2.symm⟩
  have hm1 : 1 ≤ m := by
    rcases Nat.eq_zero_or_pos m with e | e
    · rw [e] at hm
      have := (count_cut46 l).1 hm.symm
      rw [hp] at this; cases this
    · exact e
  have d1 : ((m : Int) == 0) = false := by simp; omega
  have d2 : decide ((m : Int) < 1) = false := decide_eq_false (by omega)
  obtain ⟨t1, t2, t3⟩ := cut46_take hp
  have hsz : (⟨l.toArray⟩ : ByteArray).size = l.length := by simp [ByteArray.size]
  have hd : dot ⟨l.toArray⟩ = ((cut46 l).1.length : Int) := by
    unfold dot
    rw [Lib.firstIdx_eq]
    have := indexByte_cut46 l
    rw [hp, if_pos rfl] at this
    exact this
  obtain ⟨k, hk⟩ : ∃ k, k = (cut46 l).1.length := ⟨_, rfl⟩
  rw [← hk] at hd t1 t2 t3
  have HT := Lib.hid (And.intro t1 t2)
  obtain ⟨n, hn⟩ : ∃ n, n = l.length := ⟨_, rfl⟩
  have e1 : (n : Int) + -1 = ((n - 1 : Nat) : Int) := by omega
  have HEX := Lib.hid (show (⟨l.toArray⟩ : ByteArray).extract 0 l.length = ⟨l.toArray⟩ from by apply ByteArray.ext; simp)
  have HE1 := Lib.hid (show ((⟨l.toArray⟩ : ByteArray).extract 0 k).data.toList = (cut46 l).1 by rw [← t1]; simp [List.extract_eq_take_drop])
  have HE2 := Lib.hid (show ((⟨l.toArray⟩ : ByteArray).extract (k + 1) l.length).data.toList = (cut46 l).2.1 by
    rw [← t2]; simp [List.extract_eq_take_drop]; rw [List.take_of_length_le (by simp)])
  rw [← hn] at t3 hs hsz HEX HE2
  have HS := Lib.hid (And.intro hs t3)
  have hkn : (k : Int) + 1 ≤ n := by omega
  have hnn : (n : Int) ≤ 140737488355328 := by omega
  have ix : ∀ w, Calls Tryz.prog 33 #[.string ⟨l.toArray⟩, .string ⟨#[46]⟩] w fun e w' => e = .returned (.int .i64 k) ∧ w = w' := fun w => by
    rw [← hd]
    exact (sindex_any ⟨l.toArray⟩ w).mono fun _ _ h => ⟨h.1, h.2.symm⟩
  have IX := Lib.hid ix
  clear hm hm1 hp t1 t2 hk hs t3 hd ix
  generalize hX : (⟨l.toArray⟩ : ByteArray) = X at *
  clear hX hn
  have hz0 := heap_alloc_new w (.cells #[.pointer none, .slice none 0 0] 66)
  have HB0 := Lib.hid (Below.new w (.cells #[.pointer none, .slice none 0 0] 66))
  have HZ0 := Lib.hid hz0
  have hsz0 : (w.alloc (.cells #[.pointer none, .slice none 0 0] 66)).heap.size = w.heap.size + 1 := by simp
  have HSZ := Lib.hid hsz0
  clear hz0 hsz0
  go_enter Tryz.func15, Tryz.ntmps15
  go_wp2_with fail
  refine a1.mono ?_
  clear a1
  rintro e w' ⟨rfl, rfl⟩
  go_wp2_with fail
  refine (Tryz.Builder_Grow_fresh w.heap.size w.heap.size (n - 1) _ (Nat.le_refl _) HZ0.out (by rw [HSZ.out]; omega) (by have := HS.out.1; omega)).mono ?_
  rintro e w1 ⟨rfl, hb1, hw1⟩
  have H1 := Lib.hid hb1
  have HB1 := Lib.hid (HB0.out.trans hw1)
  have HG1 := Lib.hid (show w.heap.size ≤ w1.heap.size from HB1.out.size)
  clear hb1 hw1 e1 HB0 HZ0 HSZ
  go_wp2_with fail
  refine wp_loop_rounds 2 ?_
  rw [rounds_succ]
  go_wp2_with fail
  rw [HEX.out]
  refine (IX.out _).mono ?_
  clear IX
  rintro e w' ⟨rfl, rfl⟩
  go_wp2_with fail
  refine (Tryz.Builder_WriteString w.heap.size w.heap.size [] (X.extract 0 k) w1 (.inr H1.out) (by rw [ByteArray.size_extract]; have := HS.out; simp; omega) HG1.out).mono ?_
  rintro e w2 ⟨rfl, hb2, hw2⟩
  have H2 := Lib.hid hb2
  have HB2 := Lib.hid (HB1.out.trans hw2)
  have HG2 := Lib.hid (show w.heap.size ≤ w2.heap.size from HB2.out.size)
  clear hb2 hw2 HB1 H1 HG1
  go_wp2_with fail
  refine (Tryz.Builder_WriteString w.heap.size w.heap.size _ ⟨#[]⟩ w2 (.inr H2.out) (by rw [List.length_append, Lib.strCells_length, ByteArray.size_extract, show (⟨#[]⟩ : ByteArray).size = 0 from rfl]; have := HS.out; simp; omega) HG2.out).mono ?_
  rintro e w3 ⟨rfl, hb3, hw3⟩
  have H3 := Lib.hid hb3
  have HB3 := Lib.hid (HB2.out.trans hw3)
  have HG3 := Lib.hid (show w.heap.size ≤ w3.heap.size from HB3.out.size)
  clear hb3 hw3 HB2 H2 HG2
  go_wp2_with fail
  rw [rounds_succ]
  go_wp2_with fail
  refine (Tryz.Builder_WriteString w.heap.size w.heap.size _ (X.extract (k + 1) n) w3 (.inr H3.out) (by rw [List.length_append, List.length_append, Lib.strCells_length, Lib.strCells_length, ByteArray.size_extract, ByteArray.size_extract, show (⟨#[]⟩ : ByteArray).size = 0 from rfl]; have := HS.out; simp; omega) HG3.out).mono ?_
  rintro e w4 ⟨rfl, hb4, hw4⟩
  have H4 := Lib.hid (show Lib.BuilderAt 66 5 w.heap.size w.heap.size (.pointer (some ⟨w.heap.size, 0, none⟩)) (Lib.byteCells ((cut46 l).1 ++ (cut46 l).2.1)) w4 from by
    have e : Lib.byteCells ((cut46 l).1 ++ (cut46 l).2.1) = [] ++ Lib.strCells (X.extract 0 k) ++ Lib.strCells ⟨#[]⟩ ++ Lib.strCells (X.extract (k + 1) n) := by
      rw [Lib.strCells_eq, Lib.strCells_eq, Lib.strCells_eq, HE1.out, HE2.out]
      simp [Lib.byteCells]
    rw [e]; exact hb4)
  have HB4 := Lib.hid (HB3.out.trans hw4)
  have HG4 := Lib.hid (show w.heap.size ≤ w4.heap.size from HB4.out.size)
  clear hb4 hw4 HB3 H3 HG3
  go_wp2_with fail
  refine (Tryz.Builder_String_any w.heap.size w.heap.size _ w4 (.inr H4.out) HG4.out).mono ?_
  rintro e w5 ⟨rfl, hw5⟩
  have HB5 := Lib.hid (HB4.out.trans hw5)
  clear hw5
  go_wp2
  go_ret
  exact ⟨rfl, HB5.out⟩
end Go.Proofs.YthkobjbemmllfaaGreatDoor
