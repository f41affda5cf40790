/- money.Parse of a text in form: walked. -/
import Derived.Test.YthkobjbemmllfaaGreatDoorFormW
import Derived.Test.YthkobjbemmllfaaGreatDoorNum
namespace Go.Proofs.YthkobjbemmllfaaGreatDoor
open Go.RowKit

theorem form_yes {l : List UInt8} {d : Nat} {neg : Bool} {L R : List UInt8} (w : World) (hl : l.length ≤ 140737488355328) (hd : d ≤ 6) (h : Form l d neg L R) :
    Calls Tryz.prog 13 #[.string ⟨l.toArray⟩, .int .i64 d] w fun e w' => e = .returned (.bool true) ∧ Below w.heap.size w w' := by
  obtain ⟨_, _, hP, _⟩ := of_form h
  obtain ⟨hA, hQ⟩ := formP_iff.1 hP
  have := form_on l d w hl hd hA
  rwa [hQ] at this
theorem form_no {l : List UInt8} {d : Nat} (w : World) (hl : l.length ≤ 140737488355328) (hd : d ≤ 6) (h : ¬ ∃ neg L R, Form l d neg L R) :
    Calls Tryz.prog 13 #[.string ⟨l.toArray⟩, .int .i64 d] w fun e w' => e = .returned (.bool false) ∧ Below w.heap.size w w' := by
  by_cases hA : FormA d (cut46 (plainOf l)).1 (cut46 (plainOf l)).2.1 (cut46 (plainOf l)).2.2
  · have := form_on l d w hl hd hA
    cases hQ : formQ l (cut46 (plainOf l)).1 (cut46 (plainOf l)).2.1 with
    | false => rwa [hQ] at this
    | true =>
      obtain ⟨neg, hF⟩ := form_of (formP_iff.2 ⟨hA, hQ⟩)
      exact absurd ⟨neg, _, _, hF⟩ h
  · exact form_off l d w hl hd hA
/-- The text without its point. -/
theorem repl_form {l : List UInt8} {d : Nat} {neg : Bool} {L R : List UInt8} (w : World) (hl : l.length ≤ 140737488355328) (h : Form l d neg L R) :
    Calls Tryz.prog 15 #[.string ⟨l.toArray⟩, .string ⟨#[46]⟩, .string ⟨#[]⟩, .int .i64 1] w fun e w' => e = .returned (.string ⟨((if neg then [45] else []) ++ (L ++ R)).toArray⟩) ∧ Below w.heap.size w w' := by
  have hno : (46 : UInt8) ∉ (if neg then [(45 : UInt8)] else []) ++ L := fun hm => by
    rcases List.mem_append.1 hm with h' | h'
    · cases neg with
      | true => exact absurd h' (by decide)
      | false => exact absurd h' (by decide)
    · exact absurd (h.dL 46 h') (by unfold DigB; decide)
  by_cases h0 : d = 0
  · have hs : l = (if neg then [45] else []) ++ L := by have := h.hs; rwa [if_pos h0, List.append_nil] at this
    have hR0 : R = [] := List.eq_nil_of_length_eq_zero (h.hR.trans h0)
    have hc : (cut46 l).2.2 = false := by rw [hs, cut46_no hno]
    rw [hR0, List.append_nil, ← hs]
    exact (replace_none l w hc).mono fun _ _ ⟨a, b⟩ => ⟨a, by rw [← b]; exact Below.refl _ _⟩
  · have hs : l = ((if neg then [45] else []) ++ L) ++ 46 :: R := by have := h.hs; rw [if_neg h0, ← List.append_assoc] at this; exact this
    have hc := cut46_yes R hno
    rw [← hs] at hc
    have := replace_point l w hl (by rw [hc])
    rw [hc] at this
    rw [← List.append_assoc]
    exact this
/-- The library's own variable ErrRange holds an error. -/
def SR (w : World) : Prop := ∃ te pe, w.cell? ⟨41, 0, none⟩ = some (.iface te pe) ∧ 41 < w.heap.size
theorem SR.below {w w' : World} (h : SR w) (hb : Below w.heap.size w w') : SR w' := by
  obtain ⟨te, pe, h1, h2⟩ := h
  exact ⟨te, pe, (hb.cell (p := ⟨41, 0, none⟩) h2).trans h1, Nat.lt_of_lt_of_le h2 hb.size⟩

set_option maxRecDepth 100000 in
set_option maxHeartbeats 2000000 in
theorem parse_out (B : Nat → Addr) (s : ByteArray) (d : Int) (w : World) (hE : Env w B) (hd : d < 0 ∨ 6 < d) :
    Calls Tryz.prog 6 #[.string s, .int .i64 d] w fun e w' => e = .returned (.tuple #[.int .i64 0, ev B 6]) ∧ Below w.heap.size w w' := by
  have c6 := hE.cell 0 (by decide)
  have HV := Lib.hid (show ev B 6 = .iface 162 (.pointer (some (B 0))) from rfl)
  clear hE
  rcases hd with h | h
  · have d1 : decide (d < 0) = true := decide_eq_true h
    go_enter Tryz.func6, Tryz.ntmps6
    go_wp2
    go_quiet (fail)
    go_wp2
    go_ret2
    exact ⟨by rw [HV.out]; rfl, below_drewN (Below.refl _ _) _⟩
  · have d1 : decide (d < 0) = false := decide_eq_false (by omega)
    have d2 : decide (6 < d) = true := decide_eq_true h
    go_enter Tryz.func6, Tryz.ntmps6
    go_wp2
    go_quiet (fail)
    go_wp2
    go_ret2
    exact ⟨by rw [HV.out]; rfl, below_drewN (Below.refl _ _) _⟩
set_option maxRecDepth 100000 in
set_option maxHeartbeats 2000000 in
theorem parse_form (B : Nat → Addr) (l : List UInt8) (d : Nat) (w : World) (hE : Env w B) (hl : l.length ≤ 140737488355328) (hd : d ≤ 6) (h : ¬ ∃ neg L R, Form l d neg L R) :
    Calls Tryz.prog 6 #[.string ⟨l.toArray⟩, .int .i64 d] w fun e w' => e = .returned (.tuple #[.int .i64 0, ev B 7]) ∧ Below w.heap.size w w' := by
  have HE := Lib.hid hE
  have a1 := form_no w hl hd h
  have d1 : decide ((d : Int) < 0) = false := decide_eq_false (by omega)
  have d2 : decide (6 < (d : Int)) = false := decide_eq_false (by omega)
  have HV := Lib.hid (show ev B 7 = .iface 162 (.pointer (some (B 1))) from rfl)
  clear hE hl hd h
  generalize (⟨l.toArray⟩ : ByteArray) = S at *
  go_enter Tryz.func6, Tryz.ntmps6
  go_wp2_with fail
  refine a1.mono ?_
  clear a1
  rintro e w1 ⟨rfl, hb1⟩
  have c7 := (HE.out.below hb1).cell 1 (by decide)
  have HB := Lib.hid hb1
  clear hb1
  go_wp2
  go_quiet (fail)
  go_wp2
  go_ret2
  exact ⟨by rw [HV.out]; rfl, below_drewN HB.out _⟩
end Go.Proofs.YthkobjbemmllfaaGreatDoor
namespace Go.Proofs.YthkobjbemmllfaaGreatDoor
open Go.RowKit
set_option maxRecDepth 100000 in
theorem read_ok (T : List UInt8) (v : Int) (w : World) (hl : T.length ≤ 140737488355328) (h : Lib.parseIntB 64 T = .ok v) :
    Calls Tryz.prog 14 #[.string ⟨T.toArray⟩, .int .i64 10, .int .i64 64] w fun e w' => e = .returned (.tuple #[.int .i64 v, .nilIface]) ∧ Below w.heap.size w w' := by
  have hs : (⟨T.toArray⟩ : ByteArray).size = T.length := rfl
  refine (Tryz.strconv_ParseInt_10_at64_ok ⟨T.toArray⟩ (by rw [hs]; omega) v h w).mono ?_
  rintro e w' ⟨h1, h2⟩
  refine ⟨h1, ?_⟩
  rcases h2 with rfl | ⟨t, rfl⟩
  · exact Below.refl _ _
  · exact Lib.bytesWorld_below _ _ _
set_option maxRecDepth 100000 in
theorem read_over (T : List UInt8) (w : World) (hl : T.length ≤ 140737488355328) (hS : SR w) (h : Lib.parseIntB 64 T = .range) :
    Calls Tryz.prog 14 #[.string ⟨T.toArray⟩, .int .i64 10, .int .i64 64] w fun e w' => ∃ x N, e = .returned (.tuple #[.int .i64 x, .iface 103 (.pointer (some ⟨N, 0, none⟩))]) ∧ Below w.heap.size w w' := by
  have hs : (⟨T.toArray⟩ : ByteArray).size = T.length := rfl
  obtain ⟨te, pe, h1, h2⟩ := hS
  refine (Tryz.strconv_ParseInt_10_at64_range ⟨T.toArray⟩ (by rw [hs]; omega) h _ w h1 (.inr ⟨te, pe, rfl⟩)).mono ?_
  rintro e w' ⟨N, a, _, _, b⟩
  generalize Lib.intSat 64 _ = x at a
  exact ⟨x, N, a, b⟩
set_option maxRecDepth 100000 in
theorem ne_nil103 (w : World) (N : Nat) : (binOp .neq 25 (.iface 103 (.pointer (some ⟨N, 0, none⟩))) .nilIface).run Tryz.prog w = .ok (.bool true) w := rfl
theorem parse_len {l : List UInt8} {d : Nat} {neg : Bool} {L R : List UInt8} (h : Form l d neg L R) : ((if neg then [45] else []) ++ (L ++ R)).length ≤ l.length := by
  have e := congrArg List.length h.hs
  have e' := h.hR
  simp only [List.length_append] at e ⊢
  by_cases h0 : d = 0
  · rw [if_pos h0] at e
    rw [e]
    simp only [List.length_nil]
    omega
  · rw [if_neg h0] at e
    rw [e]
    simp only [List.length_cons]
    omega
set_option maxRecDepth 100000 in
set_option maxHeartbeats 2000000 in
theorem parse_good (l : List UInt8) (d : Nat) (w : World) (hl : l.length ≤ 140737488355328) (hd : d ≤ 6) {neg : Bool} {L R : List UInt8} (h : Form l d neg L R) (v : Int) (hv : Lib.parseIntB 64 ((if neg then [45] else []) ++ (L ++ R)) = .ok v) :
    Calls Tryz.prog 6 #[.string ⟨l.toArray⟩, .int .i64 d] w fun e w' => e = .returned (.tuple #[.int .i64 v, .nilIface]) ∧ Below w.heap.size w w' := by
  have a1 := form_yes w hl hd h
  have a2 := Lib.hid fun w1 => repl_form w1 hl h
  have hT := Nat.le_trans (parse_len h) hl
  have a3 := Lib.hid fun w2 => read_ok _ v w2 hT hv
  have d1 : decide ((d : Int) < 0) = false := decide_eq_false (by omega)
  have d2 : decide (6 < (d : Int)) = false := decide_eq_false (by omega)
  clear hl hd h hv hT
  generalize (⟨((if neg then [45] else []) ++ (L ++ R)).toArray⟩ : ByteArray) = T at *
  generalize (⟨l.toArray⟩ : ByteArray) = S at *
  go_enter Tryz.func6, Tryz.ntmps6
  go_wp2_with fail
  refine a1.mono ?_
  clear a1
  rintro e w1 ⟨rfl, hb1⟩
  have HB := Lib.hid hb1
  clear hb1
  go_wp2_with fail
  refine (a2.out w1).mono ?_
  clear a2
  rintro e w2 ⟨rfl, hb2⟩
  have HB2 := Lib.hid (HB.out.trans (hb2.mono HB.out.size))
  clear hb2 HB
  go_wp2_with fail
  refine (a3.out w2).mono ?_
  clear a3
  rintro e w3 ⟨rfl, hb3⟩
  have HB3 := Lib.hid (HB2.out.trans (hb3.mono HB2.out.size))
  clear hb3 HB2
  go_wp2
  go_ret2
  exact ⟨rfl, HB3.out⟩
set_option maxRecDepth 100000 in
set_option maxHeartbeats 2000000 in
theorem parse_over (B : Nat → Addr) (l : List UInt8) (d : Nat) (w : World) (hE : Env w B) (hS : SR w) (hl : l.length ≤ 140737488355328) (hd : d ≤ 6) {neg : Bool} {L R : List UInt8} (h : Form l d neg L R) (hv : Lib.parseIntB 64 ((if neg then [45] else []) ++ (L ++ R)) = .range) :
    Calls Tryz.prog 6 #[.string ⟨l.toArray⟩, .int .i64 d] w fun e w' => e = .returned (.tuple #[.int .i64 0, ev B 10]) ∧ Below w.heap.size w w' := by
  have a1 := form_yes w hl hd h
  have a2 := Lib.hid fun w1 => repl_form w1 hl h
  have hT := Nat.le_trans (parse_len h) hl
  have a3 := Lib.hid fun w2 (hS2 : SR w2) => read_over _ w2 hT hS2 hv
  have HE := Lib.hid hE
  have HS := Lib.hid hS
  have HV := Lib.hid (show ev B 10 = .iface 162 (.pointer (some (B 2))) from rfl)
  have d1 : decide ((d : Int) < 0) = false := decide_eq_false (by omega)
  have d2 : decide (6 < (d : Int)) = false := decide_eq_false (by omega)
  clear hl hd h hv hT hE hS
  generalize (⟨((if neg then [45] else []) ++ (L ++ R)).toArray⟩ : ByteArray) = T at *
  generalize (⟨l.toArray⟩ : ByteArray) = S at *
  go_enter Tryz.func6, Tryz.ntmps6
  go_wp2_with fail
  refine a1.mono ?_
  clear a1
  rintro e w1 ⟨rfl, hb1⟩
  have HB := Lib.hid hb1
  clear hb1
  go_wp2_with fail
  refine (a2.out w1).mono ?_
  clear a2
  rintro e w2 ⟨rfl, hb2⟩
  have HB2 := Lib.hid (HB.out.trans (hb2.mono HB.out.size))
  clear hb2 HB
  go_wp2_with fail
  refine (a3.out w2 (HS.out.below HB2.out)).mono ?_
  clear a3
  rintro e w3 ⟨x, N, rfl, hb3⟩
  have HB3 := Lib.hid (HB2.out.trans (hb3.mono HB2.out.size))
  clear hb3 HB2
  have c8 := (HE.out.below HB3.out).cell 2 (by decide)
  have n1 := ne_nil103 w3 N
  go_wp2
  go_quiet (fail)
  go_wp2
  go_ret2
  exact ⟨by rw [HV.out]; rfl, below_drewN HB3.out _⟩
end Go.Proofs.YthkobjbemmllfaaGreatDoor
