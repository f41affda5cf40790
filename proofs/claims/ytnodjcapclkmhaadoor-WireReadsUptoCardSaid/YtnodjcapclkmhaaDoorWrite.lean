/- write: one value, by the Writer's call: walked, a kind a theorem. -/
import Derived.Test.YtnodjcapclkmhaaDoorPre
import Derived.Test.YtnodjcapclkmhaaDoorPut2
namespace Go.Proofs.YtnodjcapclkmhaaDoor
open Go.RowKit

set_option maxRecDepth 100000 in
set_option maxHeartbeats 1000000 in
theorem write_1 (B g : Nat) (xs : List Int) (r : Option Nat) (o : OpV) (w : World) (hW : Wri w B g xs r) (ho : o.Ok) (hl : (xs ++ uvL o.u).length ≤ 70368744177664) (hk : o.k = 1) :
    Calls Tryd.prog 27 #[.pointer (some ⟨g, 0, none⟩), o.val] w fun e w' => e = .returned (.bool true) ∧ ∃ r', Wri w' B g (xs ++ uvL o.u) r' ∧ Wrote w w' g r r' := by
  obtain ⟨k, sec, u, i, n, m, s, A, ln, lc, ss⟩ := o
  obtain ⟨hu, hi⟩ := ho
  simp only at hk hl hu hi
  subst hk
  unfold OpV.val
  simp only
  have hb := Below.new w (.cells #[.int .i64 1, .bool sec, .int .u64 u, .int .i64 i, .int .i64 n, .int .i64 m, .string s, .slice A ln lc] 30)
  have W0 := Lib.hid (hW.below hb)
  have HB0 := Lib.hid hb
  clear hb hW
  go_enter Tryd.func27, Tryd.ntmps27
  go_wp2_with fail
  refine (uint_any B g xs r u _ W0.out hu (by omega)).mono ?_
  rintro e w1 ⟨rfl, r1, h1, h2⟩
  have H1 := Lib.hid h1; have H2 := Lib.hid ((Wrote.of_below HB0.out g r).trans h2); clear h1 h2
  go_wp2
  go_ret
  exact ⟨rfl, r1, H1.out, H2.out⟩

set_option maxRecDepth 100000 in
set_option maxHeartbeats 1000000 in
theorem write_8 (B g : Nat) (xs : List Int) (r : Option Nat) (o : OpV) (w : World) (hW : Wri w B g xs r) (ho : o.Ok) (hl : (xs ++ uvL o.u).length ≤ 70368744177664) (hk : o.k = 8) :
    Calls Tryd.prog 27 #[.pointer (some ⟨g, 0, none⟩), o.val] w fun e w' => e = .returned (.bool true) ∧ ∃ r', Wri w' B g (xs ++ uvL o.u) r' ∧ Wrote w w' g r r' := by
  obtain ⟨k, sec, u, i, n, m, s, A, ln, lc, ss⟩ := o
  obtain ⟨hu, hi⟩ := ho
  simp only at hk hl hu hi
  subst hk
  unfold OpV.val
  simp only
  have hb := Below.new w (.cells #[.int .i64 8, .bool sec, .int .u64 u, .int .i64 i, .int .i64 n, .int .i64 m, .string s, .slice A ln lc] 30)
  have W0 := Lib.hid (hW.below hb)
  have HB0 := Lib.hid hb
  clear hb hW
  go_enter Tryd.func27, Tryd.ntmps27
  go_wp2_with fail
  refine (uint_any B g xs r u _ W0.out hu (by omega)).mono ?_
  rintro e w1 ⟨rfl, r1, h1, h2⟩
  have H1 := Lib.hid h1; have H2 := Lib.hid ((Wrote.of_below HB0.out g r).trans h2); clear h1 h2
  go_wp2
  go_ret
  exact ⟨rfl, r1, H1.out, H2.out⟩

set_option maxRecDepth 100000 in
set_option maxHeartbeats 1000000 in
theorem write_2 (B g : Nat) (xs : List Int) (r : Option Nat) (o : OpV) (w : World) (hW : Wri w B g xs r) (ho : o.Ok) (hl : (xs ++ uvL (zig o.i)).length ≤ 70368744177664) (hk : o.k = 2) :
    Calls Tryd.prog 27 #[.pointer (some ⟨g, 0, none⟩), o.val] w fun e w' => e = .returned (.bool true) ∧ ∃ r', Wri w' B g (xs ++ uvL (zig o.i)) r' ∧ Wrote w w' g r r' := by
  obtain ⟨k, sec, u, i, n, m, s, A, ln, lc, ss⟩ := o
  obtain ⟨hu, hi⟩ := ho
  simp only at hk hl hu hi
  subst hk
  unfold OpV.val
  simp only
  have hb := Below.new w (.cells #[.int .i64 2, .bool sec, .int .u64 u, .int .i64 i, .int .i64 n, .int .i64 m, .string s, .slice A ln lc] 30)
  have W0 := Lib.hid (hW.below hb)
  have HB0 := Lib.hid hb
  clear hb hW
  go_enter Tryd.func27, Tryd.ntmps27
  go_wp2_with fail
  refine (int_any B g xs r i _ W0.out hi (by omega)).mono ?_
  rintro e w1 ⟨rfl, r1, h1, h2⟩
  have H1 := Lib.hid h1; have H2 := Lib.hid ((Wrote.of_below HB0.out g r).trans h2); clear h1 h2
  go_wp2
  go_ret
  exact ⟨rfl, r1, H1.out, H2.out⟩

set_option maxRecDepth 100000 in
set_option maxHeartbeats 1000000 in
theorem write_3 (B g : Nat) (xs : List Int) (r : Option Nat) (o : OpV) (w : World) (hW : Wri w B g xs r) (ho : o.Ok) (hl : (xs ++ lowL o.u 8).length ≤ 70368744177664) (hk : o.k = 3) :
    Calls Tryd.prog 27 #[.pointer (some ⟨g, 0, none⟩), o.val] w fun e w' => e = .returned (.bool true) ∧ ∃ r', Wri w' B g (xs ++ lowL o.u 8) r' ∧ Wrote w w' g r r' := by
  obtain ⟨k, sec, u, i, n, m, s, A, ln, lc, ss⟩ := o
  obtain ⟨hu, hi⟩ := ho
  simp only at hk hl hu hi
  subst hk
  unfold OpV.val
  simp only
  have hb := Below.new w (.cells #[.int .i64 3, .bool sec, .int .u64 u, .int .i64 i, .int .i64 n, .int .i64 m, .string s, .slice A ln lc] 30)
  have W0 := Lib.hid (hW.below hb)
  have HB0 := Lib.hid hb
  clear hb hW
  go_enter Tryd.func27, Tryd.ntmps27
  go_wp2_with fail
  refine (fixed_any B g xs r u _ W0.out hu (by rw [List.length_append, lowL_length] at hl; omega)).mono ?_
  rintro e w1 ⟨rfl, r1, h1, h2⟩
  have H1 := Lib.hid h1; have H2 := Lib.hid ((Wrote.of_below HB0.out g r).trans h2); clear h1 h2
  go_wp2
  go_ret
  exact ⟨rfl, r1, H1.out, H2.out⟩

set_option maxRecDepth 100000 in
set_option maxHeartbeats 1000000 in
theorem write_4 (B g : Nat) (xs : List Int) (r : Option Nat) (o : OpV) (w : World) (hW : Wri w B g xs r) (ho : o.Ok) (hl : (xs ++ lowL o.u 1).length ≤ 70368744177664) (hk : o.k = 4) :
    Calls Tryd.prog 27 #[.pointer (some ⟨g, 0, none⟩), o.val] w fun e w' => e = .returned (.bool true) ∧ ∃ r', Wri w' B g (xs ++ lowL o.u 1) r' ∧ Wrote w w' g r r' := by
  obtain ⟨k, sec, u, i, n, m, s, A, ln, lc, ss⟩ := o
  obtain ⟨hu, hi⟩ := ho
  simp only at hk hl hu hi
  subst hk
  unfold OpV.val
  simp only
  have hb := Below.new w (.cells #[.int .i64 4, .bool sec, .int .u64 u, .int .i64 i, .int .i64 n, .int .i64 m, .string s, .slice A ln lc] 30)
  have W0 := Lib.hid (hW.below hb)
  have HB0 := Lib.hid hb
  have e1 : lowL u 1 = [(u : Int) % 256] := by
    show [((u % 256 : Nat) : Int)] = _
    rw [show ((u % 256 : Nat) : Int) = (u : Int) % 256 by omega]
  rw [e1] at hl ⊢
  clear e1
  clear hb hW
  go_enter Tryd.func27, Tryd.ntmps27
  go_wp2_with fail
  refine (byte_any B g xs r ((u : Int) % 256) _ W0.out (by rw [List.length_append] at hl; simp at hl; omega)).mono ?_
  rintro e w1 ⟨rfl, r1, h1, h2⟩
  have H1 := Lib.hid h1; have H2 := Lib.hid ((Wrote.of_below HB0.out g r).trans h2); clear h1 h2
  go_wp2
  go_ret
  exact ⟨rfl, r1, H1.out, H2.out⟩

set_option maxRecDepth 100000 in
set_option maxHeartbeats 1000000 in
theorem write_5 (B g : Nat) (xs : List Int) (r : Option Nat) (o : OpV) (w : World) (hW : Wri w B g xs r) (ho : o.Ok) (hl : (xs ++ lowL (fbits (o.u % 4294967296)) 4).length ≤ 70368744177664) (hk : o.k = 5) :
    Calls Tryd.prog 27 #[.pointer (some ⟨g, 0, none⟩), o.val] w fun e w' => e = .returned (.bool true) ∧ ∃ r', Wri w' B g (xs ++ lowL (fbits (o.u % 4294967296)) 4) r' ∧ Wrote w w' g r r' := by
  obtain ⟨k, sec, u, i, n, m, s, A, ln, lc, ss⟩ := o
  obtain ⟨hu, hi⟩ := ho
  simp only at hk hl hu hi
  subst hk
  unfold OpV.val
  simp only
  have hb := Below.new w (.cells #[.int .i64 5, .bool sec, .int .u64 u, .int .i64 i, .int .i64 n, .int .i64 m, .string s, .slice A ln lc] 30)
  have W0 := Lib.hid (hW.below hb)
  have HB0 := Lib.hid hb
  have e1 : ((u % 4294967296 : Nat) : Int) = (u : Int) % 4294967296 := by omega
  have k1 : ∀ w, (callFunc 40 #[.int .u32 ((u : Int) % 4294967296)]).run Tryd.prog w = .ok (.value (.float .f32 (u % 4294967296))) w := fun w => by
    have := run_frombits ((u : Int) % 4294967296) w
    rwa [← e1, Int.toNat_natCast, e1] at this
  have a1 := fun w hW => float_any B g xs r (u % 4294967296) w hW (by omega) (by rw [List.length_append, lowL_length] at hl; omega)
  clear e1
  generalize lowL (fbits (u % 4294967296)) 4 = bs at *
  generalize u % 4294967296 = b at *
  clear hb hW
  go_enter Tryd.func27, Tryd.ntmps27
  go_wp2_with fail
  refine (a1 _ W0.out).mono ?_
  rintro e w1 ⟨rfl, r1, h1, h2⟩
  have H1 := Lib.hid h1; have H2 := Lib.hid ((Wrote.of_below HB0.out g r).trans h2); clear h1 h2
  go_wp2
  go_ret
  exact ⟨rfl, r1, H1.out, H2.out⟩

set_option maxRecDepth 100000 in
set_option maxHeartbeats 1000000 in
theorem write_6 (B g : Nat) (xs : List Int) (r : Option Nat) (o : OpV) (w : World) (hW : Wri w B g xs r) (ho : o.Ok) (hl : (xs ++ textL o.s).length ≤ 70368744177664) (hk : o.k = 6) :
    Calls Tryd.prog 27 #[.pointer (some ⟨g, 0, none⟩), o.val] w fun e w' => e = .returned (.bool true) ∧ ∃ r', Wri w' B g (xs ++ textL o.s) r' ∧ Wrote w w' g r r' := by
  obtain ⟨k, sec, u, i, n, m, s, A, ln, lc, ss⟩ := o
  obtain ⟨hu, hi⟩ := ho
  simp only at hk hl hu hi
  subst hk
  unfold OpV.val
  simp only
  have hb := Below.new w (.cells #[.int .i64 6, .bool sec, .int .u64 u, .int .i64 i, .int .i64 n, .int .i64 m, .string s, .slice A ln lc] 30)
  have W0 := Lib.hid (hW.below hb)
  have HB0 := Lib.hid hb
  clear hb hW
  go_enter Tryd.func27, Tryd.ntmps27
  go_wp2_with fail
  refine (text_any B g xs r s _ W0.out (by omega)).mono ?_
  rintro e w1 ⟨rfl, r1, h1, h2⟩
  have H1 := Lib.hid h1; have H2 := Lib.hid ((Wrote.of_below HB0.out g r).trans h2); clear h1 h2
  go_wp2
  go_ret
  exact ⟨rfl, r1, H1.out, H2.out⟩

set_option maxRecDepth 100000 in
set_option maxHeartbeats 1000000 in
theorem write_7 (B g : Nat) (xs : List Int) (r : Option Nat) (o : OpV) (w : World) (hW : Wri w B g xs r) (ho : o.Ok) (hA : Tv w o.A o.ln o.lc o.ss) (hAb : 0 < o.ln → ∀ a, o.A = some a → a.block < B) (hln : o.ln ≤ 4000000000) (hl : (xs ++ textsL o.ss o.ln).length ≤ 70368744177664) (hk : o.k = 7) :
    Calls Tryd.prog 27 #[.pointer (some ⟨g, 0, none⟩), o.val] w fun e w' => e = .returned (.bool true) ∧ ∃ r', Wri w' B g (xs ++ textsL o.ss o.ln) r' ∧ Wrote w w' g r r' := by
  obtain ⟨k, sec, u, i, n, m, s, A, ln, lc, ss⟩ := o
  obtain ⟨hu, hi⟩ := ho
  simp only at hk hl hu hi hA hAb hln
  subst hk
  unfold OpV.val
  simp only
  have hb := Below.new w (.cells #[.int .i64 7, .bool sec, .int .u64 u, .int .i64 i, .int .i64 n, .int .i64 m, .string s, .slice A ln lc] 30)
  have W0 := Lib.hid (hW.below hb)
  have HB0 := Lib.hid hb
  have hlt := hW.lt
  have hTx : Txs (w.alloc (.cells #[.int .i64 7, .bool sec, .int .u64 u, .int .i64 i, .int .i64 n, .int .i64 m, .string s, .slice A ln lc] 30)) A ln ss g r := by
    intro h0
    obtain ⟨b, q, rfl, hbl, hc⟩ := hA.2 h0
    have hbB : b < B := hAb h0 _ rfl
    exact ⟨b, q, rfl, by have := hb.size; omega, by omega, fun e => by have := (hlt.2.2 b e.symm).1; omega, fun j hj => (hb.cell (by exact hbl)).trans (hc j hj)⟩
  have HTX := Lib.hid hTx
  clear hTx hA hlt
  clear hb hW
  go_enter Tryd.func27, Tryd.ntmps27
  go_wp2_with fail
  refine (texts_any B g xs r A ln lc ss _ W0.out HTX.out (by omega) (by omega)).mono ?_
  rintro e w1 ⟨rfl, r1, h1, h2⟩
  have H1 := Lib.hid h1; have H2 := Lib.hid ((Wrote.of_below HB0.out g r).trans h2); clear h1 h2
  go_wp2
  go_ret
  exact ⟨rfl, r1, H1.out, H2.out⟩

set_option maxRecDepth 100000 in
set_option maxHeartbeats 1000000 in
theorem write_0 (B g : Nat) (xs : List Int) (r : Option Nat) (o : OpV) (w : World) (hW : Wri w B g xs r) (hk : o.k < 1 ∨ 8 < o.k) :
    Calls Tryd.prog 27 #[.pointer (some ⟨g, 0, none⟩), o.val] w fun e w' => e = .returned (.bool false) ∧ ∃ r', Wri w' B g (xs ++ []) r' ∧ Wrote w w' g r r' := by
  obtain ⟨k, sec, u, i, n, m, t, A, ln, lc, ss⟩ := o
  simp only at hk
  unfold OpV.val
  simp only
  have hb := Below.new w (.cells #[.int .i64 k, .bool sec, .int .u64 u, .int .i64 i, .int .i64 n, .int .i64 m, .string t, .slice A ln lc] 30)
  have H1 := Lib.hid (hW.below hb)
  have H2 := Lib.hid (Wrote.of_below hb g r)
  clear hb hW
  have k1 : (k == 1) = false := by simp; omega
  have k2 : (k == 2) = false := by simp; omega
  have k3 : (k == 3) = false := by simp; omega
  have k4 : (k == 4) = false := by simp; omega
  have k5 : (k == 5) = false := by simp; omega
  have k6 : (k == 6) = false := by simp; omega
  have k7 : (k == 7) = false := by simp; omega
  have k8 : (k == 8) = false := by simp; omega
  clear hk
  rw [List.append_nil]
  go_enter Tryd.func27, Tryd.ntmps27
  go_wp2
  go_ret
  exact ⟨rfl, r, H1.out, H2.out⟩

/-- Has the Op a value? -/
def okK (o : OpV) : Bool := decide (1 ≤ o.k) && decide (o.k ≤ 8)
theorem write_any (B g : Nat) (xs : List Int) (r : Option Nat) (o : OpV) (w : World) (hW : Wri w B g xs r) (ho : o.Ok) (hA : Tv w o.A o.ln o.lc o.ss) (hAb : 0 < o.ln → ∀ a, o.A = some a → a.block < B) (hln : o.ln ≤ 4000000000) (hl : (xs ++ putL o).length ≤ 70368744177664) :
    Calls Tryd.prog 27 #[.pointer (some ⟨g, 0, none⟩), o.val] w fun e w' => e = .returned (.bool (okK o)) ∧ ∃ r', Wri w' B g (xs ++ putL o) r' ∧ Wrote w w' g r r' := by
  rcases (show o.k = 1 ∨ o.k = 2 ∨ o.k = 3 ∨ o.k = 4 ∨ o.k = 5 ∨ o.k = 6 ∨ o.k = 7 ∨ o.k = 8 ∨ (o.k < 1 ∨ 8 < o.k) by omega) with hk | hk | hk | hk | hk | hk | hk | hk | hk
  · have e : putL o = uvL o.u := by unfold putL; simp [hk]
    have e2 : okK o = true := by unfold okK; simp [hk]
    rw [e] at hl ⊢; rw [e2]; exact write_1 B g xs r o w hW ho hl hk
  · have e : putL o = uvL (zig o.i) := by unfold putL; simp [hk]
    have e2 : okK o = true := by unfold okK; simp [hk]
    rw [e] at hl ⊢; rw [e2]; exact write_2 B g xs r o w hW ho hl hk
  · have e : putL o = lowL o.u 8 := by unfold putL; simp [hk]
    have e2 : okK o = true := by unfold okK; simp [hk]
    rw [e] at hl ⊢; rw [e2]; exact write_3 B g xs r o w hW ho hl hk
  · have e : putL o = lowL o.u 1 := by unfold putL; simp [hk]
    have e2 : okK o = true := by unfold okK; simp [hk]
    rw [e] at hl ⊢; rw [e2]; exact write_4 B g xs r o w hW ho hl hk
  · have e : putL o = lowL (fbits (o.u % 4294967296)) 4 := by unfold putL; simp [hk]
    have e2 : okK o = true := by unfold okK; simp [hk]
    rw [e] at hl ⊢; rw [e2]; exact write_5 B g xs r o w hW ho hl hk
  · have e : putL o = textL o.s := by unfold putL; simp [hk]
    have e2 : okK o = true := by unfold okK; simp [hk]
    rw [e] at hl ⊢; rw [e2]; exact write_6 B g xs r o w hW ho hl hk
  · have e : putL o = textsL o.ss o.ln := by unfold putL; simp [hk]
    have e2 : okK o = true := by unfold okK; simp [hk]
    rw [e] at hl ⊢; rw [e2]; exact write_7 B g xs r o w hW ho hA hAb hln hl hk
  · have e : putL o = uvL o.u := by unfold putL; simp [hk]
    have e2 : okK o = true := by unfold okK; simp [hk]
    rw [e] at hl ⊢; rw [e2]; exact write_8 B g xs r o w hW ho hl hk
  · have e : putL o = [] := by unfold putL; rw [if_neg (by omega), if_neg (by omega), if_neg (by omega), if_neg (by omega), if_neg (by omega), if_neg (by omega), if_neg (by omega), if_neg (by omega)]
    have e2 : okK o = false := by unfold okK; simp; omega
    rw [e, e2]; exact write_0 B g xs r o w hW hk
end Go.Proofs.YtnodjcapclkmhaaDoor
