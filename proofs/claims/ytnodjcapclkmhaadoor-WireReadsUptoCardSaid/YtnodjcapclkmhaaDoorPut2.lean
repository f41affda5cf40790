/- put: Byte, Float, Texts and all else: walked. -/
import Derived.Test.YtnodjcapclkmhaaDoorPut
namespace Go.Proofs.YtnodjcapclkmhaaDoor
open Go.RowKit

set_option maxRecDepth 100000 in
set_option maxHeartbeats 1000000 in
theorem put_4 (B g : Nat) (xs : List Int) (r : Option Nat) (o : OpV) (w : World) (hW : Wri w B g xs r) (ho : o.Ok) (hl : (xs ++ lowL o.u 1).length ≤ 70368744177664) (hk : o.k = 4) :
    Calls Tryd.prog 11 #[.pointer (some ⟨g, 0, none⟩), o.val] w fun e w' => e = .returned (.tuple #[.string (strOfNums (lowL o.u 1)), .bool true]) ∧ ∃ r', Wri w' B g (xs ++ lowL o.u 1) r' ∧ Wrote w w' g r r' := by
  obtain ⟨k, sec, u, i, n, m, s, A, ln, lc, ss⟩ := o
  obtain ⟨hu, hi⟩ := ho
  simp only at hk hl hu hi
  subst hk
  unfold OpV.val
  simp only
  have hlt := hW.lt
  have hb := Below.new w (.cells #[.int .i64 4, .bool sec, .int .u64 u, .int .i64 i, .int .i64 n, .int .i64 m, .string s, .slice A ln lc] 30)
  have W0 := Lib.hid (hW.below hb)
  have HB0 := Lib.hid hb
  have hbx : w.heap.size ≠ g := by omega
  have hbr : some w.heap.size ≠ r := fun e => by have := hlt.2.2 _ e.symm; omega
  have HX := Lib.hid (box_cells w (.int .i64 4) (.bool sec) (.int .u64 u) (.int .i64 i) (.int .i64 n) (.int .i64 m) (.string s) (.slice A ln lc))
  have e1 : lowL u 1 = [(u : Int) % 256] := by
    show [((u % 256 : Nat) : Int)] = _
    rw [show ((u % 256 : Nat) : Int) = (u : Int) % 256 by omega]
  have a2 := fun w => refLow_any u 1 w hu (by decide)
  rw [e1] at hl a2 ⊢
  clear hb hW e1
  go_enter Tryd.func11, Tryd.ntmps11
  go_wp2_with fail
  refine (byte_any B g xs r ((u : Int) % 256) _ W0.out (by rw [List.length_append] at hl; simp at hl; omega)).mono ?_
  rintro e w1 ⟨rfl, r1, h1, h2⟩
  obtain ⟨x2, x3, x6, x7⟩ := box_kept HX.out h2 hbx hbr
  have H1 := Lib.hid h1; have H2 := Lib.hid ((Wrote.of_below HB0.out g r).trans h2); clear h1 h2
  go_wp2_with fail
  refine (a2 _).mono ?_
  rintro e w2 ⟨rfl, hb2⟩
  have H3 := Lib.hid (H1.out.below hb2); have H4 := Lib.hid (H2.out.trans (Wrote.of_below hb2 g r1))
  clear hb2
  go_wp2
  go_ret2
  exact ⟨rfl, r1, H3.out, H4.out⟩

set_option maxRecDepth 100000 in
set_option maxHeartbeats 1000000 in
theorem put_5 (B g : Nat) (xs : List Int) (r : Option Nat) (o : OpV) (w : World) (hW : Wri w B g xs r) (ho : o.Ok) (hl : (xs ++ lowL (fbits (o.u % 4294967296)) 4).length ≤ 70368744177664) (hk : o.k = 5) :
    Calls Tryd.prog 11 #[.pointer (some ⟨g, 0, none⟩), o.val] w fun e w' => e = .returned (.tuple #[.string (strOfNums (lowL (fbits (o.u % 4294967296)) 4)), .bool true]) ∧ ∃ r', Wri w' B g (xs ++ lowL (fbits (o.u % 4294967296)) 4) r' ∧ Wrote w w' g r r' := by
  obtain ⟨k, sec, u, i, n, m, s, A, ln, lc, ss⟩ := o
  obtain ⟨hu, hi⟩ := ho
  simp only at hk hl hu hi
  subst hk
  unfold OpV.val
  simp only
  have hlt := hW.lt
  have hb := Below.new w (.cells #[.int .i64 5, .bool sec, .int .u64 u, .int .i64 i, .int .i64 n, .int .i64 m, .string s, .slice A ln lc] 30)
  have W0 := Lib.hid (hW.below hb)
  have HB0 := Lib.hid hb
  have hbx : w.heap.size ≠ g := by omega
  have hbr : some w.heap.size ≠ r := fun e => by have := hlt.2.2 _ e.symm; omega
  have HX := Lib.hid (box_cells w (.int .i64 5) (.bool sec) (.int .u64 u) (.int .i64 i) (.int .i64 n) (.int .i64 m) (.string s) (.slice A ln lc))
  have e1 : ((u % 4294967296 : Nat) : Int) = (u : Int) % 4294967296 := by omega
  have a2 := fun w => refFloat_any (u % 4294967296) w (by omega)
  have k1 : ∀ w, (callFunc 40 #[.int .u32 ((u : Int) % 4294967296)]).run Tryd.prog w = .ok (.value (.float .f32 (u % 4294967296))) w := fun w => by
    have := run_frombits ((u : Int) % 4294967296) w
    rwa [← e1, Int.toNat_natCast, e1] at this
  rw [e1] at a2
  have a1 := fun w hW => float_any B g xs r (u % 4294967296) w hW (by omega) (by rw [List.length_append, lowL_length] at hl; omega)
  clear hb hW e1
  generalize lowL (fbits (u % 4294967296)) 4 = bs at *
  generalize u % 4294967296 = b at *
  go_enter Tryd.func11, Tryd.ntmps11
  go_wp2_with fail
  refine (a1 _ W0.out).mono ?_
  rintro e w1 ⟨rfl, r1, h1, h2⟩
  obtain ⟨x2, x3, x6, x7⟩ := box_kept HX.out h2 hbx hbr
  have H1 := Lib.hid h1; have H2 := Lib.hid ((Wrote.of_below HB0.out g r).trans h2); clear h1 h2
  go_wp2_with fail
  refine (a2 _).mono ?_
  rintro e w2 ⟨rfl, hb2⟩
  have H3 := Lib.hid (H1.out.below hb2); have H4 := Lib.hid (H2.out.trans (Wrote.of_below hb2 g r1))
  clear hb2
  go_wp2
  go_ret2
  exact ⟨rfl, r1, H3.out, H4.out⟩

set_option maxRecDepth 100000 in
set_option maxHeartbeats 1000000 in
theorem put_0 (B g : Nat) (xs : List Int) (r : Option Nat) (o : OpV) (w : World) (hW : Wri w B g xs r) (hk : o.k < 1 ∨ 8 < o.k) :
    Calls Tryd.prog 11 #[.pointer (some ⟨g, 0, none⟩), o.val] w fun e w' => e = .returned (.tuple #[.string ⟨#[]⟩, .bool true]) ∧ ∃ r', Wri w' B g xs r' ∧ Wrote w w' g r r' := by
  obtain ⟨k, sec, u, i, n, m, s, A, ln, lc, ss⟩ := o
  simp only at hk
  unfold OpV.val
  simp only
  have hb := Below.new w (.cells #[.int .i64 k, .bool sec, .int .u64 u, .int .i64 i, .int .i64 n, .int .i64 m, .string s, .slice A ln lc] 30)
  have H0 := Lib.hid (hW.below hb)
  have HB0 := Lib.hid hb
  have k1 : (k == 1) = false := by simp; omega
  have k2 : (k == 2) = false := by simp; omega
  have k3 : (k == 3) = false := by simp; omega
  have k4 : (k == 4) = false := by simp; omega
  have k5 : (k == 5) = false := by simp; omega
  have k6 : (k == 6) = false := by simp; omega
  have k7 : (k == 7) = false := by simp; omega
  have k8 : (k == 8) = false := by simp; omega
  clear hb hW hk
  go_enter Tryd.func11, Tryd.ntmps11
  go_wp2
  go_ret2
  exact ⟨rfl, r, H0.out, Wrote.of_below HB0.out g r⟩

theorem Sl.below {w w' : World} {B : Nat} {A : Option Addr} {n : Nat} {f : Nat → Value} (h : Sl w A n f) (hA : 0 < n → ∀ a, A = some a → a.block < B) (hb : Below B w w') : Sl w' A n f := by
  intro hn
  obtain ⟨g, o, e, hg, hc⟩ := h hn
  have := hA hn _ e
  exact ⟨g, o, e, Nat.lt_of_lt_of_le hg hb.size, fun i hi => (hb.cell (by exact this)).trans (hc i hi)⟩

theorem set_row {w : World} {gl k : Nat} {cur : Array Value} {t : TypeId} {u : Value} (h : w.heap[gl]? = some (.cells cur t (0, 0))) :
    ∃ cur', (w.setCell ⟨gl, k, none⟩ u).heap[gl]? = some (.cells cur' t (0, 0)) ∧ cur'.size = cur.size := by
  refine ⟨cur.setIfInBounds k u, ?_, by simp⟩
  show (w.heap.modify gl _)[gl]? = _
  rw [Array.getElem?_modify, if_pos rfl, h]
  rfl
theorem Wrote.set (w : World) (g k : Nat) (u : Value) : Wrote w (w.setCell ⟨g, k, none⟩ u) g none none :=
  ⟨rfl, rfl, rfl, by simp [World.setCell], fun j _ hj _ => Below.heap_setCell w ⟨g, k, none⟩ u j hj, .inl rfl⟩
/-- Writes to a block that is new since w add nothing. -/
theorem wrote_new {w w1 w2 : World} {g h : Nat} {r r1 : Option Nat} (a : Wrote w w1 g r r1) (b : Wrote w1 w2 h none none) (hh : w.heap.size ≤ h) : Wrote w w2 g r r1 :=
  ⟨b.os.trans a.os, b.tape.trans a.tape, b.output.trans a.output, Nat.le_trans a.size b.size, fun k hk h1 h2 => (b.block k (Nat.lt_of_lt_of_le hk a.size) (by omega) (fun e => by cases e)).trans (a.block k hk h1 h2), a.row⟩

set_option maxRecDepth 100000 in
set_option maxHeartbeats 2000000 in
theorem put_7 (B g : Nat) (xs : List Int) (r : Option Nat) (o : OpV) (w : World) (hW : Wri w B g xs r) (hA : Tv w o.A o.ln o.lc o.ss) (hAb : 0 < o.ln → ∀ a, o.A = some a → a.block < B) (hln : o.ln ≤ 4000000000) (hl : (xs ++ textsL o.ss o.ln).length ≤ 70368744177664) (hk : o.k = 7) :
    Calls Tryd.prog 11 #[.pointer (some ⟨g, 0, none⟩), o.val] w fun e w' => e = .returned (.tuple #[.string (strOfNums (textsL o.ss o.ln)), .bool true]) ∧ ∃ r', Wri w' B g (xs ++ textsL o.ss o.ln) r' ∧ Wrote w w' g r r' := by
  obtain ⟨k, sec, u, i, n, m, s, A, ln, lc, ss⟩ := o
  simp only at hk hl hA hAb hln
  subst hk
  unfold OpV.val
  simp only
  have hlt := hW.lt
  have hBw : B ≤ w.heap.size := by omega
  have hb := Below.new w (.cells #[.int .i64 7, .bool sec, .int .u64 u, .int .i64 i, .int .i64 n, .int .i64 m, .string s, .slice A ln lc] 30)
  have W0 := Lib.hid (hW.below hb)
  have HB0 := Lib.hid hb
  have hbx : w.heap.size ≠ g := by omega
  have hbr : some w.heap.size ≠ r := fun e => by have := hlt.2.2 _ e.symm; omega
  have HX := Lib.hid (box_cells w (.int .i64 7) (.bool sec) (.int .u64 u) (.int .i64 i) (.int .i64 n) (.int .i64 m) (.string s) (.slice A ln lc))
  have hT0 : Tv (w.alloc (.cells #[.int .i64 7, .bool sec, .int .u64 u, .int .i64 i, .int .i64 n, .int .i64 m, .string s, .slice A ln lc] 30)) A ln lc ss := ⟨hA.1, hA.2.below hAb (hb.mono hBw)⟩
  have a1 := spare_any A ln lc ss _ hT0 hln
  have hz0 : (w.alloc (.cells #[.int .i64 7, .bool sec, .int .u64 u, .int .i64 i, .int .i64 n, .int .i64 m, .string s, .slice A ln lc] 30)).heap.size = w.heap.size + 1 := by simp
  have HA0 := Lib.hid hA.2; have HT := Lib.hid hT0; have HZ := Lib.hid hz0; have HL := Lib.hid hl; have HLT := Lib.hid hlt
  clear hb hW hA hT0 hl hlt
  go_enter Tryd.func11, Tryd.ntmps11
  go_wp2_with fail
  rw [hz0] at a1
  refine a1.mono ?_
  rintro e w1 ⟨rfl, hown, hb1⟩
  have hBlow : ∀ k, r = some k → B ≤ k := fun k h => (HLT.out.2.2 k h).1
  have hgl1 : w.heap.size + 1 ≠ g := by have := HLT.out.2.1; omega
  have hgr1 : some (w.heap.size + 1) ≠ r := fun e => by have := (HLT.out.2.2 _ e.symm).2; omega
  have hW1 := Lib.hid (W0.out.below (hb1.mono (by rw [HZ.out]; exact Nat.le_refl _)))
  have hf1 : ∀ j, j < ln + 80 → w1.cell? ⟨w.heap.size + 1, j, none⟩ = some (.string (spare ss ln j)) := fun j hj => by
    have := World.ownsRow.cells hown (g := w.heap.size + 1) rfl j _ (txs_at (spare ss ln) (ln + 80) j hj)
    have e0 : (⟨w.heap.size + 1, 0, none⟩ : Addr).add j = ⟨w.heap.size + 1, 0 + j, none⟩ := by unfold Addr.add; split <;> simp_all
    rwa [e0, Nat.zero_add] at this
  have hrow : ∃ cur, w1.heap[w.heap.size + 1]? = some (.cells cur 9 (0, 0)) ∧ cur.size = ln + 80 := by
    rcases hown.2 with ⟨e, _⟩ | ⟨q, cap, cur, e, _, hq, _, _, hcs, _⟩
    · cases e
    · obtain ⟨rfl, rfl⟩ : q = w.heap.size + 1 ∧ cap = ln + 80 := by
        simp only [Value.slice.injEq, Option.some.injEq, Addr.mk.injEq] at e
        omega
      exact ⟨cur, hq, by omega⟩
  have hgsz : w.heap.size + 1 < w1.heap.size := World.block_lt_of_cell? w1 _ (hf1 0 (by omega))
  have hB1 : Below B w w1 := (HB0.out.mono hBw).trans (hb1.mono (by omega))
  have hbox1 : w1.heap[w.heap.size]? = some (.cells #[.int .i64 7, .bool sec, .int .u64 u, .int .i64 i, .int .i64 n, .int .i64 m, .string s, .slice A ln lc] 30 (0, 0)) := (hb1.block _ (by omega)).trans HX.out
  have hTx : Txs w1 (some ⟨w.heap.size + 1, 0, none⟩) ln ss g r := fun h0 => ⟨_, _, rfl, hgsz, hgl1, hgr1, fun j hj => by
    rw [Nat.zero_add, hf1 j (by omega)]; unfold spare; rw [if_pos hj]⟩
  have hw01 : Wrote w w1 g r r := ⟨hb1.os.trans HB0.out.os, hb1.tape.trans HB0.out.tape, hb1.output.trans HB0.out.output, by omega, fun k hk _ _ => (hb1.block k (by omega)).trans (HB0.out.block k hk), .inl rfl⟩
  have HF1 := Lib.hid hf1; have HRO := Lib.hid hrow; have HB1 := Lib.hid hB1; have HBO := Lib.hid hbox1; have HTX := Lib.hid hTx; have HW01 := Lib.hid hw01; have HGS := Lib.hid hgsz
  clear hown hb1 hf1 hrow hB1 hbox1 hTx hw01 hz0 a1
  go_wp2_with fail
  refine (texts_any B g xs r (some ⟨w.heap.size + 1, 0, none⟩) ln (ln + 80) ss w1 hW1.out HTX.out (by omega) (by have := HL.out; omega)).mono ?_
  rintro e w2 ⟨rfl, r2, h1, h2⟩
  have hgl2 : w2.heap[w.heap.size + 1]? = w1.heap[w.heap.size + 1]? := h2.block _ HGS.out hgl1 hgr1
  have hf2 : ∀ j, j < ln + 80 → w2.cell? ⟨w.heap.size + 1, j, none⟩ = some (.string (spare ss ln j)) := fun j hj => (World.cell?_of_block hgl2).trans (HF1.out j hj)
  have hbox2 : w2.heap[w.heap.size]? = some (.cells #[.int .i64 7, .bool sec, .int .u64 u, .int .i64 i, .int .i64 n, .int .i64 m, .string s, .slice A ln lc] 30 (0, 0)) := (h2.block _ (by have := HGS.out; omega) hbx hbr).trans HBO.out
  have x7 : w2.cell? ⟨w.heap.size, 7, none⟩ = some (.slice A ln lc) := by unfold World.cell?; rw [hbox2]; rfl
  have hB2 : Below B w w2 := HB1.out.trans (h2.below (by have := HGS.out; omega) HLT.out.1 hBlow)
  have hr2 : r2 ≠ some (w.heap.size + 1) := by
    rcases h2.row with e | ⟨k, e, hk⟩
    · rw [e]; exact fun h => hgr1 h.symm
    · rw [e]; intro h; have := Option.some.inj h; have := HGS.out; omega
  have hr2b : r2 ≠ some w.heap.size := by
    rcases h2.row with e | ⟨k, e, hk⟩
    · rw [e]; exact fun h => hbr h.symm
    · rw [e]; intro h; have := Option.some.inj h; have := HGS.out; omega
  have hro2 : ∃ cur, w2.heap[w.heap.size + 1]? = some (.cells cur 9 (0, 0)) ∧ cur.size = ln + 80 := by rw [hgl2]; exact HRO.out
  have hgs2 : w.heap.size + 1 < w2.heap.size := Nat.lt_of_lt_of_le HGS.out h2.size
  have H2 := Lib.hid h1; have W2 := Lib.hid (HW01.out.trans h2); have HF2 := Lib.hid hf2; have HBO2 := Lib.hid hbox2; have HB2 := Lib.hid hB2; have HR2 := Lib.hid hro2
  clear h1 h2 hgl2 hf2 hbox2 hB2 hro2
  go_wp2_with fail
  refine (kept_any (w.heap.size + 1) A ln lc ss w2 hln hgs2 HF2.out (HA0.out.below hAb HB2.out)).mono ?_
  rintro e w3 ⟨rfl, hb3⟩
  have H3 := Lib.hid (H2.out.below hb3)
  have W3 := Lib.hid (W2.out.trans (Wrote.of_below hb3 g r2))
  have HBO3 := Lib.hid ((hb3.block _ (by omega)).trans HBO2.out)
  have HB3 := Lib.hid (HB2.out.trans (hb3.mono (by omega)))
  have HR3 := Lib.hid (show ∃ cur, w3.heap[w.heap.size + 1]? = some (.cells cur 9 (0, 0)) ∧ cur.size = ln + 80 by rw [hb3.block _ hgs2]; exact HR2.out)
  have hgs3 : w.heap.size + 1 < w3.heap.size := Nat.lt_of_lt_of_le hgs2 hb3.size
  clear hb3 x7
  go_wp2_with fail
  go_loopw [9, 88] (fun _ v wr => ∃ k : Nat, v = .int .i64 k ∧ k ≤ ln + 80 ∧ Hid (Wrote w3 wr (w.heap.size + 1) none none ∧ ∃ cur, wr.heap[w.heap.size + 1]? = some (.cells cur 9 (0, 0)) ∧ cur.size = ln + 80)) (fun _ v _ => ln + 80 - (intOf v).toNat)
  case atStart => exact ⟨0, rfl, Nat.zero_le _, Wrote.refl _ _ _, HR3.out⟩
  case round =>
    obtain ⟨k, rfl, hk, hh⟩ := hrel
    cases t : decide ((k : Int) < ((ln : Int) + 80)) with
    | true =>
      have t' := of_decide_eq_true t
      obtain ⟨cur, hc, hcs⟩ := hh.out.2
      have hkc : k < cur.size := by omega
      have e1 : wr.cell? ⟨w.heap.size + 1, k, none⟩ = some cur[k] := by
        rw [cell_of_row wr _ k cur 9 (0, 0) hc]; simp [hkc]
      have e2 : wr.frozen? ⟨w.heap.size + 1, k, none⟩ = false := by simp [World.frozen?, hc]
      have HH := Lib.hid (hh.out.1.trans (Wrote.set wr (w.heap.size + 1) k (.string { data := #[115, 112, 111, 105, 108, 116] })))
      have HC := Lib.hid (set_row (k := k) (u := .string { data := #[115, 112, 111, 105, 108, 116] }) hc)
      generalize cur[k] = old at e1
      go_wp2
      go_roundw
      case rel => 
        obtain ⟨cur', hc', hcs'⟩ := HC.out
        exact ⟨k + 1, by go_num, by omega, HH.out, cur', hc', by omega⟩
      case measure => simp [intOf]; omega
    | false =>
      have t' := of_decide_eq_false t
      have hw := hh.out.1
      have hap : Apart (w.heap.size + 1) none g r2 := ⟨hgl1, fun e => (by cases e), hr2, by
        cases r2 with
        | none => exact .inl rfl
        | some j => exact .inr (fun e => by cases e)⟩
      have H4 := Lib.hid (H3.out.other hw hap).1
      have x7 : wr.cell? ⟨w.heap.size, 7, none⟩ = some (.slice A ln lc) := by
        unfold World.cell?
        rw [hw.block w.heap.size (by omega) (by omega) (fun e => by cases e), HBO3.out]; rfl
      have HB4 := Lib.hid (HB3.out.trans (hw.below (by omega) (by omega) (fun k h => by cases h)))
      have W4 := Lib.hid (wrote_new W3.out hw (Nat.le_succ _))
      have a4 := refTexts_any A ln lc ss wr (HA0.out.below hAb HB4.out) (by omega) (by have := HL.out; rw [List.length_append] at this; omega)
      clear hw hap hh
      go_wp2_with fail
      refine a4.mono ?_
      rintro e w5 ⟨rfl, hb5⟩
      have H5 := Lib.hid (H4.out.below hb5)
      have W5 := Lib.hid (W4.out.trans (Wrote.of_below hb5 g r2))
      clear hb5 a4
      go_wp2
      go_ret2
      exact ⟨rfl, r2, H5.out, W5.out⟩
end Go.Proofs.YtnodjcapclkmhaaDoor
