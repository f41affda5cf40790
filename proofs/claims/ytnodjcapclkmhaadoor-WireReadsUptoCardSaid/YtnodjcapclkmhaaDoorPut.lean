/- put: one call of a Writer beside the document's answer: walked. -/
import Derived.Test.YtnodjcapclkmhaaDoorFixed
namespace Go.Proofs.YtnodjcapclkmhaaDoor
open Go.RowKit

/-- An Op. -/
structure OpV where
  k : Int
  sec : Bool
  u : Nat
  i : Int
  n : Int
  m : Int
  s : ByteArray
  A : Option Addr
  ln : Nat
  lc : Nat
  ss : Nat → ByteArray
def OpV.val (o : OpV) : Value := .agg #[.int .i64 o.k, .bool o.sec, .int .u64 o.u, .int .i64 o.i, .int .i64 o.n, .int .i64 o.m, .string o.s, .slice o.A o.ln o.lc]
/-- Its numbers are what their types hold. -/
def OpV.Ok (o : OpV) : Prop := o.u < 18446744073709551616 ∧ (-9223372036854775808 ≤ o.i ∧ o.i ≤ 9223372036854775807)

theorem box_cells (w : World) (a b c d e f g h : Value) : (w.alloc (.cells #[a, b, c, d, e, f, g, h] 30)).heap[w.heap.size]? = some (.cells #[a, b, c, d, e, f, g, h] 30 (0, 0)) := heap_alloc_new w _
theorem box_kept {w w1 : World} {bx g0 : Nat} {a b c d e f g h : Value} {r r1 : Option Nat} (hx : w.heap[bx]? = some (.cells #[a, b, c, d, e, f, g, h] 30 (0, 0))) (hw : Wrote w w1 g0 r r1) (h1 : bx ≠ g0) (h2 : some bx ≠ r) :
    w1.cell? ⟨bx, 2, none⟩ = some c ∧ w1.cell? ⟨bx, 3, none⟩ = some d ∧ w1.cell? ⟨bx, 6, none⟩ = some g ∧ w1.cell? ⟨bx, 7, none⟩ = some h := by
  have hlt : bx < w.heap.size := by
    rcases Nat.lt_or_ge bx w.heap.size with h | h
    · exact h
    · rw [Array.getElem?_eq_none h] at hx; cases hx
  have := (hw.block bx hlt h1 h2).trans hx
  refine ⟨?_, ?_, ?_, ?_⟩ <;> (unfold World.cell?; rw [this]; rfl)

set_option maxRecDepth 100000 in
set_option maxHeartbeats 1000000 in
theorem put_1 (B g : Nat) (xs : List Int) (r : Option Nat) (o : OpV) (w : World) (hW : Wri w B g xs r) (ho : o.Ok) (hl : (xs ++ uvL o.u).length ≤ 70368744177664) (hk : o.k = 1) :
    Calls Tryd.prog 11 #[.pointer (some ⟨g, 0, none⟩), o.val] w fun e w' => e = .returned (.tuple #[.string (strOfNums (uvL o.u)), .bool true]) ∧ ∃ r', Wri w' B g (xs ++ uvL o.u) r' ∧ Wrote w w' g r r' := by
  obtain ⟨k, sec, u, i, n, m, s, A, ln, lc, ss⟩ := o
  obtain ⟨hu, hi⟩ := ho
  simp only at hk hl hu hi
  subst hk
  unfold OpV.val
  simp only
  have hlt := hW.lt
  have hb := Below.new w (.cells #[.int .i64 1, .bool sec, .int .u64 u, .int .i64 i, .int .i64 n, .int .i64 m, .string s, .slice A ln lc] 30)
  have W0 := Lib.hid (hW.below hb)
  have HB0 := Lib.hid hb
  have hbx : w.heap.size ≠ g := by omega
  have hbr : some w.heap.size ≠ r := fun e => by have := hlt.2.2 _ e.symm; omega
  have HX := Lib.hid (box_cells w (.int .i64 1) (.bool sec) (.int .u64 u) (.int .i64 i) (.int .i64 n) (.int .i64 m) (.string s) (.slice A ln lc))
  clear hb hW
  go_enter Tryd.func11, Tryd.ntmps11
  go_wp2_with fail
  refine (uint_any B g xs r u _ W0.out hu (by omega)).mono ?_
  rintro e w1 ⟨rfl, r1, h1, h2⟩
  obtain ⟨x2, x3, x6, x7⟩ := box_kept HX.out h2 hbx hbr
  have H1 := Lib.hid h1; have H2 := Lib.hid ((Wrote.of_below HB0.out g r).trans h2); clear h1 h2
  go_wp2_with fail
  refine (refUint_any u _ hu).mono ?_
  rintro e w2 ⟨rfl, hb2⟩
  have H3 := Lib.hid (H1.out.below hb2); have H4 := Lib.hid (H2.out.trans (Wrote.of_below hb2 g r1))
  clear hb2
  go_wp2
  go_ret2
  exact ⟨rfl, r1, H3.out, H4.out⟩

set_option maxRecDepth 100000 in
set_option maxHeartbeats 1000000 in
theorem put_8 (B g : Nat) (xs : List Int) (r : Option Nat) (o : OpV) (w : World) (hW : Wri w B g xs r) (ho : o.Ok) (hl : (xs ++ uvL o.u).length ≤ 70368744177664) (hk : o.k = 8) :
    Calls Tryd.prog 11 #[.pointer (some ⟨g, 0, none⟩), o.val] w fun e w' => e = .returned (.tuple #[.string (strOfNums (uvL o.u)), .bool true]) ∧ ∃ r', Wri w' B g (xs ++ uvL o.u) r' ∧ Wrote w w' g r r' := by
  obtain ⟨k, sec, u, i, n, m, s, A, ln, lc, ss⟩ := o
  obtain ⟨hu, hi⟩ := ho
  simp only at hk hl hu hi
  subst hk
  unfold OpV.val
  simp only
  have hlt := hW.lt
  have hb := Below.new w (.cells #[.int .i64 8, .bool sec, .int .u64 u, .int .i64 i, .int .i64 n, .int .i64 m, .string s, .slice A ln lc] 30)
  have W0 := Lib.hid (hW.below hb)
  have HB0 := Lib.hid hb
  have hbx : w.heap.size ≠ g := by omega
  have hbr : some w.heap.size ≠ r := fun e => by have := hlt.2.2 _ e.symm; omega
  have HX := Lib.hid (box_cells w (.int .i64 8) (.bool sec) (.int .u64 u) (.int .i64 i) (.int .i64 n) (.int .i64 m) (.string s) (.slice A ln lc))
  clear hb hW
  go_enter Tryd.func11, Tryd.ntmps11
  go_wp2_with fail
  refine (uint_any B g xs r u _ W0.out hu (by omega)).mono ?_
  rintro e w1 ⟨rfl, r1, h1, h2⟩
  obtain ⟨x2, x3, x6, x7⟩ := box_kept HX.out h2 hbx hbr
  have H1 := Lib.hid h1; have H2 := Lib.hid ((Wrote.of_below HB0.out g r).trans h2); clear h1 h2
  go_wp2_with fail
  refine (refUint_any u _ hu).mono ?_
  rintro e w2 ⟨rfl, hb2⟩
  have H3 := Lib.hid (H1.out.below hb2); have H4 := Lib.hid (H2.out.trans (Wrote.of_below hb2 g r1))
  clear hb2
  go_wp2
  go_ret2
  exact ⟨rfl, r1, H3.out, H4.out⟩

set_option maxRecDepth 100000 in
set_option maxHeartbeats 1000000 in
theorem put_2 (B g : Nat) (xs : List Int) (r : Option Nat) (o : OpV) (w : World) (hW : Wri w B g xs r) (ho : o.Ok) (hl : (xs ++ uvL (zig o.i)).length ≤ 70368744177664) (hk : o.k = 2) :
    Calls Tryd.prog 11 #[.pointer (some ⟨g, 0, none⟩), o.val] w fun e w' => e = .returned (.tuple #[.string (strOfNums (uvL (zig o.i))), .bool true]) ∧ ∃ r', Wri w' B g (xs ++ uvL (zig o.i)) r' ∧ Wrote w w' g r r' := by
  obtain ⟨k, sec, u, i, n, m, s, A, ln, lc, ss⟩ := o
  obtain ⟨hu, hi⟩ := ho
  simp only at hk hl hu hi
  subst hk
  unfold OpV.val
  simp only
  have hlt := hW.lt
  have hb := Below.new w (.cells #[.int .i64 2, .bool sec, .int .u64 u, .int .i64 i, .int .i64 n, .int .i64 m, .string s, .slice A ln lc] 30)
  have W0 := Lib.hid (hW.below hb)
  have HB0 := Lib.hid hb
  have hbx : w.heap.size ≠ g := by omega
  have hbr : some w.heap.size ≠ r := fun e => by have := hlt.2.2 _ e.symm; omega
  have HX := Lib.hid (box_cells w (.int .i64 2) (.bool sec) (.int .u64 u) (.int .i64 i) (.int .i64 n) (.int .i64 m) (.string s) (.slice A ln lc))
  clear hb hW
  go_enter Tryd.func11, Tryd.ntmps11
  go_wp2_with fail
  refine (int_any B g xs r i _ W0.out hi (by omega)).mono ?_
  rintro e w1 ⟨rfl, r1, h1, h2⟩
  obtain ⟨x2, x3, x6, x7⟩ := box_kept HX.out h2 hbx hbr
  have H1 := Lib.hid h1; have H2 := Lib.hid ((Wrote.of_below HB0.out g r).trans h2); clear h1 h2
  go_wp2_with fail
  refine (refInt_any i _ hi).mono ?_
  rintro e w2 ⟨rfl, hb2⟩
  have H3 := Lib.hid (H1.out.below hb2); have H4 := Lib.hid (H2.out.trans (Wrote.of_below hb2 g r1))
  clear hb2
  go_wp2
  go_ret2
  exact ⟨rfl, r1, H3.out, H4.out⟩

set_option maxRecDepth 100000 in
set_option maxHeartbeats 1000000 in
theorem put_3 (B g : Nat) (xs : List Int) (r : Option Nat) (o : OpV) (w : World) (hW : Wri w B g xs r) (ho : o.Ok) (hl : (xs ++ lowL o.u 8).length ≤ 70368744177664) (hk : o.k = 3) :
    Calls Tryd.prog 11 #[.pointer (some ⟨g, 0, none⟩), o.val] w fun e w' => e = .returned (.tuple #[.string (strOfNums (lowL o.u 8)), .bool true]) ∧ ∃ r', Wri w' B g (xs ++ lowL o.u 8) r' ∧ Wrote w w' g r r' := by
  obtain ⟨k, sec, u, i, n, m, s, A, ln, lc, ss⟩ := o
  obtain ⟨hu, hi⟩ := ho
  simp only at hk hl hu hi
  subst hk
  unfold OpV.val
  simp only
  have hlt := hW.lt
  have hb := Below.new w (.cells #[.int .i64 3, .bool sec, .int .u64 u, .int .i64 i, .int .i64 n, .int .i64 m, .string s, .slice A ln lc] 30)
  have W0 := Lib.hid (hW.below hb)
  have HB0 := Lib.hid hb
  have hbx : w.heap.size ≠ g := by omega
  have hbr : some w.heap.size ≠ r := fun e => by have := hlt.2.2 _ e.symm; omega
  have HX := Lib.hid (box_cells w (.int .i64 3) (.bool sec) (.int .u64 u) (.int .i64 i) (.int .i64 n) (.int .i64 m) (.string s) (.slice A ln lc))
  clear hb hW
  go_enter Tryd.func11, Tryd.ntmps11
  go_wp2_with fail
  refine (fixed_any B g xs r u _ W0.out hu (by rw [List.length_append, lowL_length] at hl; omega)).mono ?_
  rintro e w1 ⟨rfl, r1, h1, h2⟩
  obtain ⟨x2, x3, x6, x7⟩ := box_kept HX.out h2 hbx hbr
  have H1 := Lib.hid h1; have H2 := Lib.hid ((Wrote.of_below HB0.out g r).trans h2); clear h1 h2
  go_wp2_with fail
  refine (refLow_any u 8 _ hu (by decide)).mono ?_
  rintro e w2 ⟨rfl, hb2⟩
  have H3 := Lib.hid (H1.out.below hb2); have H4 := Lib.hid (H2.out.trans (Wrote.of_below hb2 g r1))
  clear hb2
  go_wp2
  go_ret2
  exact ⟨rfl, r1, H3.out, H4.out⟩

set_option maxRecDepth 100000 in
set_option maxHeartbeats 1000000 in
theorem put_6 (B g : Nat) (xs : List Int) (r : Option Nat) (o : OpV) (w : World) (hW : Wri w B g xs r) (ho : o.Ok) (hl : (xs ++ textL o.s).length ≤ 70368744177664) (hk : o.k = 6) :
    Calls Tryd.prog 11 #[.pointer (some ⟨g, 0, none⟩), o.val] w fun e w' => e = .returned (.tuple #[.string (strOfNums (textL o.s)), .bool true]) ∧ ∃ r', Wri w' B g (xs ++ textL o.s) r' ∧ Wrote w w' g r r' := by
  obtain ⟨k, sec, u, i, n, m, s, A, ln, lc, ss⟩ := o
  obtain ⟨hu, hi⟩ := ho
  simp only at hk hl hu hi
  subst hk
  unfold OpV.val
  simp only
  have hlt := hW.lt
  have hb := Below.new w (.cells #[.int .i64 6, .bool sec, .int .u64 u, .int .i64 i, .int .i64 n, .int .i64 m, .string s, .slice A ln lc] 30)
  have W0 := Lib.hid (hW.below hb)
  have HB0 := Lib.hid hb
  have hbx : w.heap.size ≠ g := by omega
  have hbr : some w.heap.size ≠ r := fun e => by have := hlt.2.2 _ e.symm; omega
  have HX := Lib.hid (box_cells w (.int .i64 6) (.bool sec) (.int .u64 u) (.int .i64 i) (.int .i64 n) (.int .i64 m) (.string s) (.slice A ln lc))
  clear hb hW
  go_enter Tryd.func11, Tryd.ntmps11
  go_wp2_with fail
  refine (text_any B g xs r s _ W0.out (by omega)).mono ?_
  rintro e w1 ⟨rfl, r1, h1, h2⟩
  obtain ⟨x2, x3, x6, x7⟩ := box_kept HX.out h2 hbx hbr
  have H1 := Lib.hid h1; have H2 := Lib.hid ((Wrote.of_below HB0.out g r).trans h2); clear h1 h2
  go_wp2_with fail
  refine (refText_any s _ (by unfold textL at hl; rw [List.length_append, List.length_append, nums_length] at hl; omega)).mono ?_
  rintro e w2 ⟨rfl, hb2⟩
  have H3 := Lib.hid (H1.out.below hb2); have H4 := Lib.hid (H2.out.trans (Wrote.of_below hb2 g r1))
  clear hb2
  go_wp2
  go_ret2
  exact ⟨rfl, r1, H3.out, H4.out⟩
end Go.Proofs.YtnodjcapclkmhaaDoor
