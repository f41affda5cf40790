/- money.Text at any amount and digits: walked. -/
import Derived.Test.YthkobjbemmllfaaGreatDoorNum
import Derived.Test.YthkobjbemmllfaaGreatDoorShelf
import Derived.Below
import Derived.BigQuiet
import Derived.Deep.QuietTactic
import Derived.Lib.Hide
namespace Go.Proofs.YthkobjbemmllfaaGreatDoor
open Go.RowKit Go.Sort

abbrev Tab (w : World) : Prop := Lib.TabIs Tryz.prog w "internal/strconv.uint64pow10" .u64 Lib.pow10Tab

set_option maxRecDepth 100000 in
theorem formatInt_any (n : Int) (h0 : -9223372036854775808 ≤ n) (h1 : n ≤ 9223372036854775807) (w : World) (htab : Tab w) :
    Calls Tryz.prog 27 #[.int .i64 n, .int .i64 10] w fun e w' => e = .returned (.string ⟨(Lib.itoa n).toArray⟩) ∧ ∃ k os, w' = grow (w.drewN k) os := by
  have a1 := Tryz.internal_strconv_FormatInt_10 n h0 h1 w htab
  clear h0 h1
  generalize Lib.itoa n = l at *
  go_enter Tryz.func27, Tryz.ntmps27
  go_wp2_with fail
  refine a1.mono ?_
  clear a1
  rintro e w1 ⟨rfl, k, os, rfl⟩
  go_wp2
  go_ret
  exact ⟨rfl, k, os, rfl⟩

theorem text_out (a d : Int) (w : World) (hd : d < 0 ∨ 6 < d) : Calls Tryz.prog 12 #[.int .i64 a, .int .i64 d] w fun e w' => e = .returned (.string ⟨#[]⟩) ∧ w = w' := by
  rcases hd with h | h
  · have d1 : decide (d < 0) = true := decide_eq_true h
    go_enter Tryz.func12, Tryz.ntmps12
    go_wp2
    go_ret
    exact ⟨rfl, rfl⟩
  · have d1 : decide (d < 0) = false := decide_eq_false (by omega)
    have d2 : decide (6 < d) = true := decide_eq_true h
    go_enter Tryz.func12, Tryz.ntmps12
    go_wp2
    go_ret
    exact ⟨rfl, rfl⟩

/-- The digits, with noughts ahead so that one stands before the point. -/
def padz (d : Nat) (s : List UInt8) : List UInt8 := List.replicate (d + 1 - s.length) 48 ++ s
/-- An amount's text. -/
def mtext (a : Int) (d : Nat) : List UInt8 :=
  (if a < 0 then [45] else []) ++ (if d = 0 then Lib.decDigits a.natAbs else (padz d (Lib.decDigits a.natAbs)).take ((padz d (Lib.decDigits a.natAbs)).length - d) ++ 46 :: (padz d (Lib.decDigits a.natAbs)).drop ((padz d (Lib.decDigits a.natAbs)).length - d))

/-- The world grows alone. -/
def Grew (w w' : World) : Prop := ∃ k os, w' = grow (w.drewN k) os
theorem Grew.below {w w' : World} (h : Grew w w') : Below w.heap.size w w' := by
  obtain ⟨k, os, rfl⟩ := h
  refine ⟨rfl, rfl, rfl, ?_, fun j hj => ?_⟩
  · show w.heap.size ≤ (w.heap ++ os).size
    simp
  · show (w.heap ++ os)[j]? = _
    rw [Array.getElem?_append_left hj]

theorem nDigits_le : ∀ (k u : Nat), u < 10 ^ (k + 1) → Lib.nDigits u ≤ k + 1
  | 0, u, h => by rw [Lib.nDigits_small (by simpa using h)]; omega
  | k + 1, u, h => by
    rw [Lib.nDigits]
    split
    · omega
    · have := nDigits_le k (u / 10) (by rw [Nat.pow_succ] at h; omega)
      omega
theorem decDigits_len {u : Nat} (h : u ≤ 9223372036854775808) : (Lib.decDigits u).length ≤ 19 := by
  rw [Lib.decDigits_length]; exact nDigits_le 18 u (by omega)
theorem decDigits_pos (u : Nat) : 1 ≤ (Lib.decDigits u).length := by
  rw [Lib.decDigits_length, Lib.nDigits]; split <;> omega

theorem cat_txt (S R : List UInt8) (m : Nat) : (⟨S.toArray⟩ : ByteArray) ++ (⟨R.toArray⟩ : ByteArray).extract 0 m ++ (⟨#[46]⟩ : ByteArray) ++ (⟨R.toArray⟩ : ByteArray).extract m R.length = ⟨(S ++ (R.take m ++ 46 :: R.drop m)).toArray⟩ := by
  have e : ∀ i j, ((⟨R.toArray⟩ : ByteArray).extract i j).data = R.toArray.extract i j := fun i j => by simp
  apply ByteArray.ext
  simp [List.extract_eq_take_drop, List.take_of_length_le]
theorem ret_str {a b : ByteArray} (h : a = b) : Ending.returned (.string a) = .returned (.string b) := by rw [h]
theorem below_drewN {B : Nat} {w w' : World} (h : Below B w w') (n : Nat) : Below B w (w'.drewN n) := ⟨h.os, h.tape, h.output, h.size, h.block⟩

set_option maxRecDepth 100000 in
theorem text_nonneg (a d : Nat) (h1 : a ≤ 9223372036854775807) (hd : d ≤ 6) (w : World) (htab : Tab w) :
    Calls Tryz.prog 12 #[.int .i64 (a : Int), .int .i64 d] w fun e w' => e = .returned (.string ⟨(mtext (a : Int) d).toArray⟩) ∧ Below w.heap.size w w' := by
  have a1 := formatInt_any (a : Int) (by omega) (by omega) w htab
  have d0 : decide ((a : Int) < 0) = false := decide_eq_false (by omega)
  have d1 : decide ((d : Int) < 0) = false := decide_eq_false (by omega)
  have d2 : decide (6 < (d : Int)) = false := decide_eq_false (by omega)
  have hl : Lib.itoa (a : Int) = Lib.decDigits a := Lib.itoa_nonneg a
  rw [hl] at a1
  have hm : mtext (a : Int) d = [] ++ (if d = 0 then Lib.decDigits a else (padz d (Lib.decDigits a)).take ((padz d (Lib.decDigits a)).length - d) ++ 46 :: (padz d (Lib.decDigits a)).drop ((padz d (Lib.decDigits a)).length - d)) := by
    unfold mtext; rw [if_neg (by omega)]; simp
  rw [hm]
  have hlen := decDigits_len (u := a) (by omega)
  have hlen1 := decDigits_pos a
  clear hl hm htab
  generalize Lib.decDigits a = l at *
  skip
  by_cases hz : d = 0
  · subst hz
    rw [if_pos rfl]
    go_enter Tryz.func12, Tryz.ntmps12
    go_wp2_with fail
    refine a1.mono ?_
    clear a1
    rintro e w1 ⟨rfl, hw⟩
    have HW := Lib.hid (show Grew w w1 from hw)
    clear hw
    skip
    go_wp2
    go_ret
    exact ⟨ret_str (by apply ByteArray.ext; simp), HW.out.below⟩
  · rw [if_neg hz]
    have d3 : ((d : Int) == 0) = false := by simp; omega
    go_enter Tryz.func12, Tryz.ntmps12
    go_wp2_with fail
    refine a1.mono ?_
    clear a1
    rintro e w1 ⟨rfl, hw⟩
    have HW := Lib.hid (show Grew w w1 from hw)
    clear hw
    skip
    go_wp2_with fail
    go_loop [5] (fun v => ∃ k : Nat, v = .string ⟨(List.replicate k 48 ++ l).toArray⟩ ∧ (k + l.length ≤ d + 1 ∨ k = 0)) (fun v => match v with | .string s => d + 1 - s.size | _ => 0)
    case atStart => exact ⟨0, rfl, .inr rfl⟩
    case round =>
      obtain ⟨k, rfl, hk⟩ := hrel
      generalize hR : List.replicate k (48 : UInt8) ++ l = R at *
      have hRl : R.length = k + l.length := by rw [← hR]; simp
      have HR := Lib.hid hR
      clear hR
      by_cases hlt : R.length ≤ d
      · go_wp2
        refine ⟨⟨k + 1, ?_, .inl (by omega)⟩, ?_⟩
        · rw [List.replicate_succ, List.cons_append, HR.out]
          exact congrArg Value.string (by simp [ByteArray.ext_iff])
        · show d + 1 - (({ data := #[48] } : ByteArray) ++ { data := R.toArray }).size < d + 1 - ({ data := R.toArray } : ByteArray).size
          simp [ByteArray.size]
          omega
      · have hpad : R = padz d l := by
          rw [← HR.out]; unfold padz; rw [show k = d + 1 - l.length by omega]
        have HP := Lib.hid hpad
        clear hpad HR
        obtain ⟨m, hm⟩ : ∃ m, m = R.length - d := ⟨_, rfl⟩
        have q1 : IntKind.i64.wrap ((R.length : Int) - d) = (m : Int) := by simp only [IntKind.wrap_i64]; omega
        have q2 : decide (R.length < m) = false := decide_eq_false (by omega)
        have q3 : decide ((m : Int) < 0) = false := decide_eq_false (by omega)
        have HM := Lib.hid hm
        have hmR : m ≤ R.length := by omega
        have hlt2 : d < R.length := by omega
        have hRl2 : R.length ≤ 30 := by omega
        clear hm hRl hk hlt
        go_wp2_with fail
        go_quiet (fail)
        go_wp2
        go_ret
        exact ⟨ret_str (by rw [← HP.out, ← HM.out]; exact cat_txt [] R m), below_drewN HW.out.below _⟩
set_option maxRecDepth 100000 in
theorem text_neg (a d : Nat) (h1 : 1 ≤ a ∧ a ≤ 9223372036854775808) (hd : d ≤ 6) (w : World) (htab : Tab w) :
    Calls Tryz.prog 12 #[.int .i64 (-(a : Int)), .int .i64 d] w fun e w' => e = .returned (.string ⟨(mtext (-(a : Int)) d).toArray⟩) ∧ Below w.heap.size w w' := by
  have a1 := formatInt_any (-(a : Int)) (by omega) (by omega) w htab
  have d0 : decide ((-(a : Int)) < 0) = true := decide_eq_true (by omega)
  have d1 : decide ((d : Int) < 0) = false := decide_eq_false (by omega)
  have d2 : decide (6 < (d : Int)) = false := decide_eq_false (by omega)
  have hl : Lib.itoa (-(a : Int)) = 45 :: Lib.decDigits a := Lib.itoa_neg a h1.1
  rw [hl] at a1
  have hm : mtext (-(a : Int)) d = [45] ++ (if d = 0 then Lib.decDigits a else (padz d (Lib.decDigits a)).take ((padz d (Lib.decDigits a)).length - d) ++ 46 :: (padz d (Lib.decDigits a)).drop ((padz d (Lib.decDigits a)).length - d)) := by
    unfold mtext; rw [if_pos (by omega)]; simp
  rw [hm]
  have hlen := decDigits_len (u := a) (by omega)
  have hlen1 := decDigits_pos a
  clear hl hm htab
  generalize Lib.decDigits a = l at *
  have d4 : decide (0 < a) = true := decide_eq_true h1.1
  have hcl : (45 :: l).length = l.length + 1 := rfl
  have hA : (⟨(45 :: l).toArray⟩ : ByteArray).extract 1 (l.length + 1) = ⟨l.toArray⟩ := by apply ByteArray.ext; simp
  have HA := Lib.hid hA
  clear hA hcl h1
  generalize hX : (⟨(45 :: l).toArray⟩ : ByteArray) = X at *
  have hXs : X.size = l.length + 1 := by rw [← hX]; simp [ByteArray.size]
  clear hX
  by_cases hz : d = 0
  · subst hz
    rw [if_pos rfl]
    go_enter Tryz.func12, Tryz.ntmps12
    go_wp2_with fail
    refine a1.mono ?_
    clear a1
    rintro e w1 ⟨rfl, hw⟩
    have HW := Lib.hid (show Grew w w1 from hw)
    clear hw
    go_wp2_with fail
    go_quiet (fail)
    go_wp2
    go_ret
    exact ⟨ret_str (by rw [HA.out]; apply ByteArray.ext; simp), below_drewN HW.out.below _⟩
  · rw [if_neg hz]
    have d3 : ((d : Int) == 0) = false := by simp; omega
    go_enter Tryz.func12, Tryz.ntmps12
    go_wp2_with fail
    refine a1.mono ?_
    clear a1
    rintro e w1 ⟨rfl, hw⟩
    have HW := Lib.hid (show Grew w w1 from hw)
    clear hw
    go_wp2_with fail
    go_quiet (fail)
    go_wp2_with fail
    go_loop [5] (fun v => ∃ k : Nat, v = .string ⟨(List.replicate k 48 ++ l).toArray⟩ ∧ (k + l.length ≤ d + 1 ∨ k = 0)) (fun v => match v with | .string s => d + 1 - s.size | _ => 0)
    case atStart => exact ⟨0, congrArg Value.string HA.out, .inr rfl⟩
    case round =>
      obtain ⟨k, rfl, hk⟩ := hrel
      generalize hR : List.replicate k (48 : UInt8) ++ l = R at *
      have hRl : R.length = k + l.length := by rw [← hR]; simp
      have HR := Lib.hid hR
      clear hR
      by_cases hlt : R.length ≤ d
      · go_wp2
        refine ⟨⟨k + 1, ?_, .inl (by omega)⟩, ?_⟩
        · rw [List.replicate_succ, List.cons_append, HR.out]
          exact congrArg Value.string (by simp [ByteArray.ext_iff])
        · show d + 1 - (({ data := #[48] } : ByteArray) ++ { data := R.toArray }).size < d + 1 - ({ data := R.toArray } : ByteArray).size
          simp [ByteArray.size]
          omega
      · have hpad : R = padz d l := by
          rw [← HR.out]; unfold padz; rw [show k = d + 1 - l.length by omega]
        have HP := Lib.hid hpad
        clear hpad HR
        obtain ⟨m, hm⟩ : ∃ m, m = R.length - d := ⟨_, rfl⟩
        have q1 : IntKind.i64.wrap ((R.length : Int) - d) = (m : Int) := by simp only [IntKind.wrap_i64]; omega
        have q2 : decide (R.length < m) = false := decide_eq_false (by omega)
        have q3 : decide ((m : Int) < 0) = false := decide_eq_false (by omega)
        have HM := Lib.hid hm
        have hmR : m ≤ R.length := by omega
        have hlt2 : d < R.length := by omega
        have hRl2 : R.length ≤ 30 := by omega
        clear hm hRl hk hlt
        go_wp2_with fail
        go_quiet (fail)
        go_wp2
        go_ret
        exact ⟨ret_str (by rw [← HP.out, ← HM.out]; exact cat_txt [45] R m), below_drewN (below_drewN HW.out.below _) _⟩
end Go.Proofs.YthkobjbemmllfaaGreatDoor
