/- remitref04.whole, plus, fits: walked. -/
import Derived.Test.YtodekiimkbejnaaGreatDoorRefs
import Derived.Test.YtodekiimkbejnaaGreatDoorBig2
import Derived.IntWalk
namespace Go.Proofs.YtodekiimkbejnaaGreatDoor
open Go.RowKit

/-- A whole number's two words. -/
def hiW (x : Int) : Int := x / 18446744073709551616
def loW (x : Int) : Int := x % 18446744073709551616
def wv (x : Int) : Value := .agg #[.int .i64 (hiW x), .int .u64 (loW x)]

theorem ret_agg2 {a b c d : Int} (h1 : a = c) (h2 : b = d) : Ending.returned (.agg #[.int .i64 a, .int .u64 b]) = .returned (.agg #[.int .i64 c, .int .u64 d]) := by rw [h1, h2]
theorem loW_le (x : Int) : 0 ≤ loW x ∧ loW x ≤ 18446744073709551615 := by unfold loW; omega
/-- What a whole number may come to here. -/
def Small (x : Int) : Prop := -1267650600228229401496703205376 ≤ x ∧ x ≤ 1267650600228229401496703205376
theorem hiW_le {x : Int} (h : Small x) : -68719476737 ≤ hiW x ∧ hiW x ≤ 68719476737 := by unfold Small at h; unfold hiW; omega
theorem plus_no {a b : Int} (h : loW a + loW b ≤ 18446744073709551615) : Ending.returned (.agg #[.int .i64 (hiW a + hiW b), .int .u64 (loW a + loW b)]) = .returned (wv (a + b)) :=
  ret_agg2 (by unfold hiW loW at *; omega) (by unfold loW at *; omega)
theorem plus_yes {a b c : Int} (h : 18446744073709551616 ≤ loW a + loW b) (hc : c = loW a + loW b - 18446744073709551616) : Ending.returned (.agg #[.int .i64 (hiW a + hiW b + 1), .int .u64 c]) = .returned (wv (a + b)) := by
  subst hc
  exact ret_agg2 (by unfold hiW loW at *; omega) (by unfold loW at *; omega)
theorem wrap_over {a b : Int} (ha : 0 ≤ a ∧ a ≤ 18446744073709551615) (hb : 0 ≤ b ∧ b ≤ 18446744073709551615) (h : 18446744073709551616 ≤ a + b) : ∃ c, IntKind.u64.wrap (a + b) = c ∧ c = a + b - 18446744073709551616 ∧ c < a :=
  ⟨_, rfl, by rw [IntKind.wrap_u64]; omega, by rw [IntKind.wrap_u64]; omega⟩

set_option maxRecDepth 100000 in
set_option maxHeartbeats 1000000 in
theorem whole_any (x : Int) (w : World) (h1 : -9223372036854775808 ≤ x) (h2 : x ≤ 9223372036854775807) :
    Calls Tryz.prog 37 #[.int .i64 x] w fun e w' => e = .returned (wv x) ∧ Below w.heap.size w w' := by
  cases h : decide (x < 0) with
  | true =>
    have F := Lib.hid (show Ending.returned (.agg #[.int .i64 (-1), .int .u64 (IntKind.u64.wrap x)]) = .returned (wv x) from by
      have := of_decide_eq_true h
      refine ret_agg2 ?_ ?_
      · unfold hiW; omega
      · rw [IntKind.wrap_u64]; rfl)
    go_enter Tryz.func37, Tryz.ntmps37
    go_wp2
    exact bodyPost_ret (v := .agg #[.int .i64 (-1), .int .u64 (IntKind.u64.wrap x)]) (by simp [results, Tryz.results37, go_sem]) rfl ⟨F.out, Below.new _ _⟩
  | false =>
    have hx : (0 : Int) ≤ x := by have := of_decide_eq_false h; omega
    have F := Lib.hid (show Ending.returned (.agg #[.int .i64 0, .int .u64 x]) = .returned (wv x) from by
      refine ret_agg2 ?_ ?_
      · unfold hiW; omega
      · unfold loW; omega)
    go_enter Tryz.func37, Tryz.ntmps37
    go_wp2
    exact bodyPost_ret (v := .agg #[.int .i64 0, .int .u64 x]) (by simp [results, Tryz.results37, go_sem]) rfl ⟨F.out, Below.new _ _⟩

set_option maxRecDepth 100000 in
set_option maxHeartbeats 1000000 in
theorem plus_any (a b : Int) (w : World) (ha : Small a) (hb : Small b) :
    Calls Tryz.prog 36 #[wv a, wv b] w fun e w' => e = .returned (wv (a + b)) ∧ Below w.heap.size w w' := by
  have h1 := hiW_le ha
  have h2 := hiW_le hb
  have l1 := loW_le a
  have l2 := loW_le b
  clear ha hb
  have hb3 := fun (o p q : Obj) => ((Below.new w o).trans ((Below.new (w.alloc o) p).mono (by simp))).trans ((Below.new ((w.alloc o).alloc p) q).mono (by simp; omega))
  have HB3 := Lib.hid hb3
  clear hb3
  by_cases h : loW a + loW b ≤ 18446744073709551615
  · have F := Lib.hid (plus_no h)
    generalize wv (a + b) = V at *
    unfold wv
    generalize hiW a = p at *
    generalize hiW b = q at *
    generalize loW a = c at *
    generalize loW b = d at *
    go_enter Tryz.func36, Tryz.ntmps36
    go_wp2
    exact bodyPost_ret (v := .agg #[.int .i64 (p + q), .int .u64 (c + d)]) (by simp [results, Tryz.results36, go_sem]) rfl ⟨F.out, HB3.out _ _ _⟩
  · obtain ⟨e, he, hc, hlt⟩ := wrap_over l1 l2 (by omega)
    have F := Lib.hid (plus_yes (by omega) hc)
    clear hc h
    generalize wv (a + b) = V at *
    unfold wv
    generalize hiW a = p at *
    generalize hiW b = q at *
    generalize loW a = c at *
    generalize loW b = d at *
    go_enter Tryz.func36, Tryz.ntmps36
    go_wp2
    exact bodyPost_ret (v := .agg #[.int .i64 (p + q + 1), .int .u64 e]) (by simp [results, Tryz.results36, go_sem]) rfl ⟨F.out, HB3.out _ _ _⟩

/-- What fits answers. -/
def fitsV (x : Int) : Value := if (decide (-9223372036854775808 ≤ x) && decide (x ≤ 9223372036854775807)) = true then .tuple #[.int .i64 x, .int .i64 0] else .tuple #[.int .i64 0, .int .i64 10]
theorem fits_in {x : Int} (h1 : -9223372036854775808 ≤ x) (h2 : x ≤ 9223372036854775807) : fitsV x = .tuple #[.int .i64 x, .int .i64 0] := by
  unfold fitsV; rw [decide_eq_true h1, decide_eq_true h2]; rfl
theorem fits_out {x : Int} (h : x < -9223372036854775808 ∨ 9223372036854775807 < x) : fitsV x = .tuple #[.int .i64 0, .int .i64 10] := by
  unfold fitsV
  rcases h with h | h
  · rw [decide_eq_false (by omega : ¬ -9223372036854775808 ≤ x)]; rfl
  · rw [decide_eq_false (by omega : ¬ x ≤ 9223372036854775807), Bool.and_false]; rfl

set_option maxRecDepth 100000 in
set_option maxHeartbeats 1000000 in
theorem fits_any (x : Int) (w : World) (hx : Small x) : Calls Tryz.prog 38 #[wv x] w fun e w' => e = .returned (fitsV x) ∧ Below w.heap.size w w' := by
  have h1 := hiW_le hx
  have l1 := loW_le x
  have HB := Lib.hid (Below.new w (.cells #[.int .i64 (hiW x), .int .u64 (loW x)] 75))
  have HF := Lib.hid (show x = hiW x * 18446744073709551616 + loW x by unfold hiW loW; omega)
  cases e1 : ((hiW x : Int) == 0) with
  | true =>
    have h0 : hiW x = 0 := beq_iff_eq.1 e1
    cases e2 : decide ((loW x : Int) < 9223372036854775808) with
    | true =>
      have F := Lib.hid (show Ending.returned (.tuple #[.int .i64 (wrap64 (loW x)), .int .i64 0]) = .returned (fitsV x) by
        have := of_decide_eq_true e2
        rw [fits_in (by have := HF.out; omega) (by have := HF.out; omega), show wrap64 (loW x) = x by unfold wrap64; have := HF.out; omega])
      clear HF h0
      generalize fitsV x = V at *
      unfold wv
      generalize hiW x = p at *
      generalize loW x = c at *
      go_enter Tryz.func38, Tryz.ntmps38
      go_wp2
      go_ret2
      exact ⟨F.out, HB.out⟩
    | false =>
      have F := Lib.hid (show Ending.returned (.tuple #[.int .i64 0, .int .i64 10]) = .returned (fitsV x) by
        have := of_decide_eq_false e2
        rw [fits_out (by have := HF.out; omega)])
      have e3 : ((hiW x : Int) == -1) = false := by rw [h0]; rfl
      clear HF h0
      generalize fitsV x = V at *
      unfold wv
      generalize hiW x = p at *
      generalize loW x = c at *
      go_enter Tryz.func38, Tryz.ntmps38
      go_wp2
      go_ret2
      exact ⟨F.out, HB.out⟩
  | false =>
    have h0 : hiW x ≠ 0 := beq_eq_false_iff_ne.1 e1
    cases e3 : ((hiW x : Int) == -1) with
    | true =>
      have h3 : hiW x = -1 := beq_iff_eq.1 e3
      cases e2 : decide ((9223372036854775808 : Int) ≤ loW x) with
      | true =>
        have F := Lib.hid (show Ending.returned (.tuple #[.int .i64 (wrap64 (loW x)), .int .i64 0]) = .returned (fitsV x) by
          have := of_decide_eq_true e2
          rw [fits_in (by have := HF.out; omega) (by have := HF.out; omega), show wrap64 (loW x) = x by unfold wrap64; have := HF.out; omega])
        clear HF h0 h3
        generalize fitsV x = V at *
        unfold wv
        generalize hiW x = p at *
        generalize loW x = c at *
        go_enter Tryz.func38, Tryz.ntmps38
        go_wp2
        go_ret2
        exact ⟨F.out, HB.out⟩
      | false =>
        have F := Lib.hid (show Ending.returned (.tuple #[.int .i64 0, .int .i64 10]) = .returned (fitsV x) by
          have := of_decide_eq_false e2
          rw [fits_out (by have := HF.out; omega)])
        clear HF h0 h3
        generalize fitsV x = V at *
        unfold wv
        generalize hiW x = p at *
        generalize loW x = c at *
        go_enter Tryz.func38, Tryz.ntmps38
        go_wp2
        go_ret2
        exact ⟨F.out, HB.out⟩
    | false =>
      have h3 : hiW x ≠ -1 := beq_eq_false_iff_ne.1 e3
      have F := Lib.hid (show Ending.returned (.tuple #[.int .i64 0, .int .i64 10]) = .returned (fitsV x) by
        rw [fits_out (by have := HF.out; omega)])
      clear HF h0 h3
      generalize fitsV x = V at *
      unfold wv
      generalize hiW x = p at *
      generalize loW x = c at *
      go_enter Tryz.func38, Tryz.ntmps38
      go_wp2
      go_ret2
      exact ⟨F.out, HB.out⟩
end Go.Proofs.YtodekiimkbejnaaGreatDoor
