/- WireWrites, walked. -/
import Derived.Test.YtnodjcapclkmhaaDoorPut2
namespace Go.Proofs.YtnodjcapclkmhaaDoor
open Go.RowKit

/-- What put puts behind. -/
def putL (o : OpV) : List Int := if o.k = 1 then uvL o.u else if o.k = 8 then uvL o.u else if o.k = 2 then uvL (zig o.i) else if o.k = 3 then lowL o.u 8 else if o.k = 4 then lowL o.u 1
  else if o.k = 5 then lowL (fbits (o.u % 4294967296)) 4 else if o.k = 6 then textL o.s else if o.k = 7 then textsL o.ss o.ln else []

theorem put_any (B g : Nat) (xs : List Int) (r : Option Nat) (o : OpV) (w : World) (hW : Wri w B g xs r) (ho : o.Ok) (hA : Tv w o.A o.ln o.lc o.ss) (hAb : 0 < o.ln → ∀ a, o.A = some a → a.block < B) (hln : o.ln ≤ 4000000000) (hl : (xs ++ putL o).length ≤ 70368744177664) :
    Calls Tryd.prog 11 #[.pointer (some ⟨g, 0, none⟩), o.val] w fun e w' => e = .returned (.tuple #[.string (strOfNums (putL o)), .bool true]) ∧ ∃ r', Wri w' B g (xs ++ putL o) r' ∧ Wrote w w' g r r' := by
  unfold putL at hl ⊢
  by_cases h1 : o.k = 1
  · rw [if_pos h1] at hl ⊢; exact put_1 B g xs r o w hW ho hl h1
  rw [if_neg h1] at hl ⊢
  by_cases h8 : o.k = 8
  · rw [if_pos h8] at hl ⊢; exact put_8 B g xs r o w hW ho hl h8
  rw [if_neg h8] at hl ⊢
  by_cases h2 : o.k = 2
  · rw [if_pos h2] at hl ⊢; exact put_2 B g xs r o w hW ho hl h2
  rw [if_neg h2] at hl ⊢
  by_cases h3 : o.k = 3
  · rw [if_pos h3] at hl ⊢; exact put_3 B g xs r o w hW ho hl h3
  rw [if_neg h3] at hl ⊢
  by_cases h4 : o.k = 4
  · rw [if_pos h4] at hl ⊢; exact put_4 B g xs r o w hW ho hl h4
  rw [if_neg h4] at hl ⊢
  by_cases h5 : o.k = 5
  · rw [if_pos h5] at hl ⊢; exact put_5 B g xs r o w hW ho hl h5
  rw [if_neg h5] at hl ⊢
  by_cases h6 : o.k = 6
  · rw [if_pos h6] at hl ⊢; exact put_6 B g xs r o w hW ho hl h6
  rw [if_neg h6] at hl ⊢
  by_cases h7 : o.k = 7
  · rw [if_pos h7] at hl ⊢; exact put_7 B g xs r o w hW hA hAb hln hl h7
  rw [if_neg h7, List.append_nil]
  exact put_0 B g xs r o w hW (by omega)

/-- The ops that came in: the cells of each. -/
def Ops (w : World) (A : Option Addr) (n : Nat) (ops : Nat → OpV) : Prop :=
  0 < n → ∃ g o, A = some ⟨g, o, none⟩ ∧ g < w.heap.size ∧ ∀ i, i < n →
    w.cell? ⟨g, o + i * 8, none⟩ = some (.int .i64 (ops i).k) ∧ w.cell? ⟨g, o + i * 8 + 1, none⟩ = some (.bool (ops i).sec) ∧ w.cell? ⟨g, o + i * 8 + 2, none⟩ = some (.int .u64 (ops i).u) ∧ w.cell? ⟨g, o + i * 8 + 3, none⟩ = some (.int .i64 (ops i).i) ∧
    w.cell? ⟨g, o + i * 8 + 4, none⟩ = some (.int .i64 (ops i).n) ∧ w.cell? ⟨g, o + i * 8 + 5, none⟩ = some (.int .i64 (ops i).m) ∧ w.cell? ⟨g, o + i * 8 + 6, none⟩ = some (.string (ops i).s) ∧ w.cell? ⟨g, o + i * 8 + 7, none⟩ = some (.slice (ops i).A (ops i).ln (ops i).lc) ∧
    (ops i).Ok ∧ Tv w (ops i).A (ops i).ln (ops i).lc (ops i).ss ∧ (0 < (ops i).ln → ∀ a, (ops i).A = some a → a.block < w.heap.size) ∧ (ops i).ln ≤ 4000000000
/-- How much the first k put, together. -/
def wsum (ops : Nat → OpV) : Nat → Nat
  | 0 => 0
  | k + 1 => wsum ops k + (putL (ops k)).length

/-- The four buffers: two Writers, two texts of our own. -/
structure Four (w : World) (B ga gb gx gy : Nat) (xa xb xx xy : List Int) (ra rb rx ry : Option Nat) : Prop where
  a : Buf w B ga 71 5 xa ra
  b : Buf w B gb 71 5 xb rb
  x : Buf w B gx 26 5 xx rx
  y : Buf w B gy 26 5 xy ry
  ab : Apart ga ra gb rb
  ax : Apart ga ra gx rx
  ay : Apart ga ra gy ry
  bx : Apart gb rb gx rx
  bY : Apart gb rb gy ry
  xY : Apart gx rx gy ry
section
variable {w w' : World} {B ga gb gx gy : Nat} {xa xb xx xy xs : List Int} {ra rb rx ry r : Option Nat}
theorem Four.below (h : Four w B ga gb gx gy xa xb xx xy ra rb rx ry) (hb : Below w.heap.size w w') : Four w' B ga gb gx gy xa xb xx xy ra rb rx ry :=
  ⟨h.a.below hb, h.b.below hb, h.x.below hb, h.y.below hb, h.ab, h.ax, h.ay, h.bx, h.bY, h.xY⟩
theorem Four.wa (h : Four w B ga gb gx gy xa xb xx xy ra rb rx ry) (k : Buf w' B ga 71 5 xs r) (hw : Wrote w w' ga ra r) : Four w' B ga gb gx gy xs xb xx xy r rb rx ry := by
  obtain ⟨b1, b2⟩ := h.b.other hw h.ab
  obtain ⟨x1, x2⟩ := h.x.other hw h.ax
  obtain ⟨y1, y2⟩ := h.y.other hw h.ay
  exact ⟨k, b1, x1, y1, b2, x2, y2, h.bx, h.bY, h.xY⟩
theorem Four.wb (h : Four w B ga gb gx gy xa xb xx xy ra rb rx ry) (k : Buf w' B gb 71 5 xs r) (hw : Wrote w w' gb rb r) : Four w' B ga gb gx gy xa xs xx xy ra r rx ry := by
  obtain ⟨a1, a2⟩ := h.a.other hw h.ab.symm
  obtain ⟨x1, x2⟩ := h.x.other hw h.bx
  obtain ⟨y1, y2⟩ := h.y.other hw h.bY
  exact ⟨a1, k, x1, y1, a2.symm, h.ax, h.ay, x2, y2, h.xY⟩
theorem Four.wx (h : Four w B ga gb gx gy xa xb xx xy ra rb rx ry) (k : Buf w' B gx 26 5 xs r) (hw : Wrote w w' gx rx r) : Four w' B ga gb gx gy xa xb xs xy ra rb r ry := by
  obtain ⟨a1, a2⟩ := h.a.other hw h.ax.symm
  obtain ⟨b1, b2⟩ := h.b.other hw h.bx.symm
  obtain ⟨y1, y2⟩ := h.y.other hw h.xY
  exact ⟨a1, b1, k, y1, h.ab, a2.symm, h.ay, b2.symm, h.bY, y2⟩
theorem Four.wy (h : Four w B ga gb gx gy xa xb xx xy ra rb rx ry) (k : Buf w' B gy 26 5 xs r) (hw : Wrote w w' gy ry r) : Four w' B ga gb gx gy xa xb xx xs ra rb rx r := by
  obtain ⟨a1, a2⟩ := h.a.other hw h.ay.symm
  obtain ⟨b1, b2⟩ := h.b.other hw h.bY.symm
  obtain ⟨x1, x2⟩ := h.x.other hw h.xY.symm
  exact ⟨a1, b1, x1, k, h.ab, h.ax, a2.symm, h.bx, b2.symm, x2.symm⟩
theorem Four.lts (h : Four w B ga gb gx gy xa xb xx xy ra rb rx ry) : (B ≤ ga ∧ ∀ k, ra = some k → B ≤ k) ∧ (B ≤ gb ∧ ∀ k, rb = some k → B ≤ k) ∧ (B ≤ gx ∧ ∀ k, rx = some k → B ≤ k) ∧ (B ≤ gy ∧ ∀ k, ry = some k → B ≤ k) :=
  ⟨⟨h.a.lt.1, fun k e => (h.a.lt.2.2 k e).1⟩, ⟨h.b.lt.1, fun k e => (h.b.lt.2.2 k e).1⟩, ⟨h.x.lt.1, fun k e => (h.x.lt.2.2 k e).1⟩, ⟨h.y.lt.1, fun k e => (h.y.lt.2.2 k e).1⟩⟩
end

theorem byteL_put (o : OpV) : byteL (putL o) := by
  unfold putL
  repeat' split
  all_goals first | exact byteL_uv _ | exact byteL_low _ _ | exact byteL_text _ | exact byteL_app (byteL_uv _) (byteL_ts _ _) | (intro x hx; cases hx)
theorem ownsB_form2 {w : World} {B : Nat} {e : TypeId} {v : Value} {xs : List Int} (h : ownsB w B e v xs) : ∃ A c, v = .slice A xs.length c := by
  rcases h.2 with ⟨rfl, h0⟩ | ⟨g, cap, cur, rfl, _⟩
  · exact ⟨none, 0, by rw [h0]⟩
  · exact ⟨_, _, rfl⟩
theorem Wrote.cell {w w' : World} {g : Nat} {r r' : Option Nat} (h : Wrote w w' g r r') {p : Addr} (hl : p.block < w.heap.size) (h1 : p.block ≠ g) (h2 : some p.block ≠ r) : w'.cell? p = w.cell? p :=
  World.cell?_of_block (h.block p.block hl h1 h2)

theorem four_start (w : World) : Four ((((w.alloc (.cells #[.slice none 0 0] 71)).alloc (.cells #[.slice none 0 0] 71)).alloc (.cells #[.slice none 0 0] 26)).alloc (.cells #[.slice none 0 0] 26)) w.heap.size
    w.heap.size (w.heap.size + 1) (w.heap.size + 1 + 1) (w.heap.size + 1 + 1 + 1) [] [] [] [] none none none none := by
  have z1 : (w.alloc (.cells #[.slice none 0 0] 71)).heap.size = w.heap.size + 1 := by simp
  have z2 : ((w.alloc (.cells #[.slice none 0 0] 71)).alloc (.cells #[.slice none 0 0] 71)).heap.size = w.heap.size + 1 + 1 := by simp
  have z3 : (((w.alloc (.cells #[.slice none 0 0] 71)).alloc (.cells #[.slice none 0 0] 71)).alloc (.cells #[.slice none 0 0] 26)).heap.size = w.heap.size + 1 + 1 + 1 := by simp
  have b0 := new_buf w w.heap.size 71 5 (Nat.le_refl _)
  have b1 := new_buf (w.alloc (.cells #[.slice none 0 0] 71)) w.heap.size 71 5 (by omega)
  have b2 := new_buf ((w.alloc (.cells #[.slice none 0 0] 71)).alloc (.cells #[.slice none 0 0] 71)) w.heap.size 26 5 (by omega)
  have b3 := new_buf (((w.alloc (.cells #[.slice none 0 0] 71)).alloc (.cells #[.slice none 0 0] 71)).alloc (.cells #[.slice none 0 0] 26)) w.heap.size 26 5 (by omega)
  rw [z1] at b1; rw [z2] at b2; rw [z3] at b3
  have ap : ∀ g h : Nat, g ≠ h → Apart g none h none := fun g h e => ⟨e, (fun e => by cases e), (fun e => by cases e), .inl rfl⟩
  exact ⟨((b0.below (Below.new _ _)).below (Below.new _ _)).below (Below.new _ _), (b1.below (Below.new _ _)).below (Below.new _ _), b2.below (Below.new _ _), b3, ap _ _ (by omega), ap _ _ (by omega), ap _ _ (by omega), ap _ _ (by omega), ap _ _ (by omega), ap _ _ (by omega)⟩
theorem wsum_mono (ops : Nat → OpV) {k n : Nat} (h : k ≤ n) : wsum ops k ≤ wsum ops n := by
  induction n with
  | zero => obtain rfl : k = 0 := by omega
            exact Nat.le_refl _
  | succ m ih =>
    by_cases e : k = m + 1
    · subst e; exact Nat.le_refl _
    · have := ih (by omega); show _ ≤ wsum ops m + _; omega

set_option maxRecDepth 100000 in
set_option maxHeartbeats 4000000 in
theorem writes_walk (Bf : Nat → Addr) (A : Option Addr) (n c : Nat) (ops : Nat → OpV) (w : World) (hE : Env w Bf) (hO : Ops w A n ops) (hn : n ≤ 4000000000) (hT : wsum ops n ≤ 70368744177664) :
    Calls Tryd.prog 3 #[.slice A n c] w fun e w' => e = .returned (.bool true) ∧ Below w.heap.size w w' := by
  have HE := Lib.hid hE; have HO := Lib.hid hO; have HT := Lib.hid hT; clear hE hO hT
  go_enter Tryd.func3, Tryd.ntmps3
  go_wp2_with fail
  refine (fixed_fact Bf _ HE.out).mono ?_
  rintro e w0 ⟨rfl, hb0⟩
  have HB0 := Lib.hid hb0; clear hb0
  go_wp2_with fail
  refine (new_any _).mono ?_
  rintro e w' ⟨rfl, rfl⟩
  go_wp2_with fail
  refine (new_any _).mono ?_
  rintro e w' ⟨rfl, rfl⟩
  go_wp2_with fail
  have F0 := Lib.hid (four_start w0)
  have hN : w.heap.size ≤ w0.heap.size := HB0.out.size
  have HBN := Lib.hid (show Below w0.heap.size w0 ((((w0.alloc (.cells #[.slice none 0 0] 71)).alloc (.cells #[.slice none 0 0] 71)).alloc (.cells #[.slice none 0 0] 26)).alloc (.cells #[.slice none 0 0] 26)) from
    ((((Below.refl _ _).alloc (Nat.le_refl _) _).alloc (by simp) _).alloc (by simp; omega) _).alloc (by simp; omega) _)
  generalize ((((w0.alloc (.cells #[.slice none 0 0] 71)).alloc (.cells #[.slice none 0 0] 71)).alloc (.cells #[.slice none 0 0] 26)).alloc (.cells #[.slice none 0 0] 26)) = w1 at *
  obtain ⟨N, hNN⟩ : ∃ N, N = w0.heap.size := ⟨_, rfl⟩
  rw [← hNN] at F0 HBN hN ⊢
  have HNN := Lib.hid hNN; clear hNN
  go_loopw [25] (fun i wr => ∃ k : Nat, i = .int .i64 k ∧ k ≤ n ∧ Hid (∃ xs ys ra rb rx ry, Four wr N N (N + 1) (N + 1 + 1) (N + 1 + 1 + 1) xs ys xs ys ra rb rx ry ∧ Below N w0 wr ∧ xs.length + ys.length ≤ wsum ops k)) (fun i _ => n - (intOf i).toNat)
  case atStart => exact ⟨0, rfl, Nat.zero_le _, [], [], none, none, none, none, F0.out, HBN.out, Nat.zero_le _⟩
  case round =>
    obtain ⟨k, rfl, hk, hh⟩ := hrel
    by_cases h : k < n
    · obtain ⟨xs, ys, ra, rb, rx, ry, hF, hbN, hlen⟩ := hh.out
      obtain ⟨gs, os, rfl, hgs, hcs⟩ := HO.out (by omega)
      obtain ⟨c0, c1, c2, c3, c4, c5, c6, c7, hOk, hTv, hAb, hln⟩ := hcs k h
      have hlow : Below w.heap.size w wr := HB0.out.trans (hbN.mono hN)
      have hg : ∀ (j : Nat) (v : Value), w.cell? ⟨gs, os + k * 8 + j, none⟩ = some v → wr.cell? ⟨gs, os + k * 8 + j, none⟩ = some v := fun j v hv => (hlow.cell (by exact hgs)).trans hv
      have d0 := hg 0 _ c0; have d1 := hg 1 _ c1; have d2 := hg 2 _ c2; have d3 := hg 3 _ c3; have d4 := hg 4 _ c4; have d5 := hg 5 _ c5; have d6 := hg 6 _ c6; have d7 := hg 7 _ c7
      rw [Nat.add_zero] at d0
      have HF := Lib.hid hF; have HBN2 := Lib.hid hbN; have HLEN := Lib.hid hlen; have HTv := Lib.hid hTv; have HAb := Lib.hid hAb; have HOk := Lib.hid hOk; have HCS := Lib.hid hcs
      clear hF hbN hlen hTv hAb hOk hcs hg c0 c1 c2 c3 c4 c5 c6 c7 hh
      have hwk : wsum ops k + (putL (ops k)).length ≤ 70368744177664 := Nat.le_trans (wsum_mono ops (show k + 1 ≤ n by omega)) HT.out
      obtain ⟨o, hoe⟩ : ∃ o, ops k = o := ⟨_, rfl⟩
      rw [hoe] at d0 d1 d2 d3 d4 d5 d6 d7 HTv HAb HOk hln hwk
      have HOE := Lib.hid hoe; clear hoe
      cases hsec : o.sec with
      | false =>
        rw [hsec] at d1
        have hv : o.val = .agg #[.int .i64 o.k, .bool false, .int .u64 o.u, .int .i64 o.i, .int .i64 o.n, .int .i64 o.m, .string o.s, .slice o.A o.ln o.lc] := by unfold OpV.val; rw [hsec]
        have hnew := Below.new wr (.cells #[.int .i64 o.k, .bool false, .int .u64 o.u, .int .i64 o.i, .int .i64 o.n, .int .i64 o.m, .string o.s, .slice o.A o.ln o.lc] 30)
        have hbox := box_cells wr (.int .i64 o.k) (.bool false) (.int .u64 o.u) (.int .i64 o.i) (.int .i64 o.n) (.int .i64 o.m) (.string o.s) (.slice o.A o.ln o.lc)
        have hbsz : (wr.alloc (.cells #[.int .i64 o.k, .bool false, .int .u64 o.u, .int .i64 o.i, .int .i64 o.n, .int .i64 o.m, .string o.s, .slice o.A o.ln o.lc] 30)).heap.size = wr.heap.size + 1 := by simp
        have P := put_any N (N) xs ra o _ (HF.out.a.below hnew) HOk.out ⟨HTv.out.1, HTv.out.2.below HAb.out (hlow.trans (hnew.mono hlow.size))⟩ (fun z a h => Nat.lt_of_lt_of_le (HAb.out z a h) hN) hln (by rw [List.length_append]; have := HLEN.out; omega)
        rw [hv] at P
        have F1 := Lib.hid (HF.out.below hnew)
        have HBX := Lib.hid hbox; have HNEW := Lib.hid hnew; have HBS := Lib.hid hbsz
        clear hv hnew hbox hbsz
        go_wp2_with fail
        refine P.mono ?_
        clear P
        rintro e w2 ⟨rfl, r', h1, h2⟩
        have HFl := HF.out.a.lt
        have HFx := HF.out.x.lt
        have hbx2 : w2.heap[wr.heap.size]? = some (.cells #[.int .i64 o.k, .bool false, .int .u64 o.u, .int .i64 o.i, .int .i64 o.n, .int .i64 o.m, .string o.s, .slice o.A o.ln o.lc] 30 (0, 0)) :=
          (h2.block _ (by rw [HBS.out]; omega) (by omega) (fun e => by have := (HFl.2.2 _ e.symm).2; omega)).trans HBX.out
        have hb2 : Below N w0 w2 := (HBN2.out.trans (HNEW.out.mono (by omega))).trans (h2.below (by rw [HBS.out]; omega) HFl.1 (fun k h => (HFl.2.2 k h).1))
        have F2 := Lib.hid (F1.out.wa h1 h2)
        have hsz2 : wr.heap.size + 1 ≤ w2.heap.size := by rw [← HBS.out]; exact h2.size
        obtain ⟨v, cx, fx, hown, hr, hfin⟩ := F2.out.x.opened
        have HB2 := Lib.hid hb2; have HBX2 := Lib.hid hbx2; have HFIN := Lib.hid hfin
        clear h1 h2 hbx2 hb2 hfin
        have hnx : N ≤ w2.heap.size := by omega
        have hl2 : xs.length + (strOfNums (putL o)).size ≤ 140737488355328 := by rw [strOfNums_size]; have := HLEN.out; omega
        go_wp2_with (first | (at_builtin; refine append_text rfl _ _ 26 9 rfl N 5 Tryd.underlying26 Tryd.underlying9 info5 _ _ rfl hown _ rfl hl2 hnx ?_))
        intro v' w3 ho hgr hat
        have ho2 : ownsB w3 N 5 v' (xs ++ putL o) := by
          have e := nums_str (byteL_put o)
          unfold nums at e
          rw [e] at ho; exact ho
        obtain ⟨A', c', hv'⟩ := ownsB_form2 ho2
        obtain ⟨L, hL⟩ : ∃ L, (xs ++ putL o).length = L := ⟨_, rfl⟩
        rw [hL] at hv'
        obtain ⟨cx2, fx2, h3, h4⟩ := HFIN.out _ _ w3 _ ho2 hgr rfl hat
        obtain ⟨vz, z1, _, z3, z4⟩ := h3.cell
        have F3 := Lib.hid (F2.out.wx h3 h4)
        have HB4 := Lib.hid (HB2.out.trans (h4.below hnx HFx.1 (fun k h => (HFx.2.2 k h).1)))
        have hkc : (w3.setCell ⟨N + 1 + 1, 0, none⟩ v').cell? ⟨wr.heap.size, 0, none⟩ = some (.int .i64 o.k) := by
          rw [h4.cell (by show wr.heap.size < _; omega) (by show wr.heap.size ≠ _; have := HFx.2.1; omega) (fun e => absurd (HFx.2.2 _ e.symm).2 (Nat.lt_irrefl _))]
          unfold World.cell?; rw [HBX2.out]; rfl
        have hvz : vz = v' := by
          have hl : N + 1 + 1 < w3.heap.size := World.block_lt_of_cell? w3 _ cx2
          have := World.cell?_setCell_same' w3 ⟨N + 1 + 1, 0, none⟩ v' (by rw [cx2]; rfl)
          rw [this] at z1
          exact (Option.some.inj z1).symm
        rw [hvz] at z1 z3
        have kc := fun n => convert_own (P := Tryd.prog) (src := 26) (dst := 9) (w := (w3.setCell ⟨N + 1 + 1, 0, none⟩ v').drewN n) z3 Tryd.underlying26 Tryd.underlying5 Tryd.underlying9
        subst hv'
        have HZ1 := Lib.hid z1; have HKC := Lib.hid hkc; have HKV := Lib.hid kc
        clear hown hr ho hgr hat ho2 h3 h4 z1 z3 z4 hvz hkc kc cx fx
        go_wp2_with fail
        generalize hw4 : w3.setCell ⟨N + 1 + 1, 0, none⟩ (.slice A' L c') = w4 at *
        clear hw4
        have x1 := HZ1.out; have x2 := HKC.out; have x3 := HKV.out
        have L1 := fun n => len_any N (N) _ _ (w4.drewN n) (show Wri (w4.drewN n) N (N) (xs ++ putL o) _ from F3.out.a)
        rw [hL] at L1
        have HLL := Lib.hid hL; clear hL
        have L2 := fun n => out_any N (N) _ _ (w4.drewN n) (show Wri (w4.drewN n) N (N) (xs ++ putL o) _ from F3.out.a)
        cases h9 : (o.k == 9) with
        | false =>
          go_quiet (fail)
          go_wp2
          go_roundw
          case rel => exact ⟨k + 1, by go_num, by omega, xs ++ putL o, ys, _, _, _, _, (F3.out.below (below_drewN (Below.refl _ _) _)), (below_drewN HB4.out _), by have := HLEN.out; show _ ≤ wsum ops k + (putL (ops k)).length; rw [HOE.out, List.length_append]; omega⟩
          case measure => simp [intOf]; omega
        | true =>
          go_quiet ((first | (go_at_call 12; exact Calls.quiet_of_same ((L1 _).mono fun e w' h => ⟨h.1, h.2.symm⟩)) | (go_at_call 13; exact Calls.quiet_of_same ((L2 _).mono fun e w' h => ⟨h.1, h.2.symm⟩))))
          go_wp2
          go_roundw
          case rel => exact ⟨k + 1, by go_num, by omega, xs ++ putL o, ys, _, _, _, _, (F3.out.below (below_drewN (Below.refl _ _) _)), (below_drewN HB4.out _), by have := HLEN.out; show _ ≤ wsum ops k + (putL (ops k)).length; rw [HOE.out, List.length_append]; omega⟩
          case measure => simp [intOf]; omega
      | true =>
        rw [hsec] at d1
        have hv : o.val = .agg #[.int .i64 o.k, .bool true, .int .u64 o.u, .int .i64 o.i, .int .i64 o.n, .int .i64 o.m, .string o.s, .slice o.A o.ln o.lc] := by unfold OpV.val; rw [hsec]
        have hnew := Below.new wr (.cells #[.int .i64 o.k, .bool true, .int .u64 o.u, .int .i64 o.i, .int .i64 o.n, .int .i64 o.m, .string o.s, .slice o.A o.ln o.lc] 30)
        have hbox := box_cells wr (.int .i64 o.k) (.bool true) (.int .u64 o.u) (.int .i64 o.i) (.int .i64 o.n) (.int .i64 o.m) (.string o.s) (.slice o.A o.ln o.lc)
        have hbsz : (wr.alloc (.cells #[.int .i64 o.k, .bool true, .int .u64 o.u, .int .i64 o.i, .int .i64 o.n, .int .i64 o.m, .string o.s, .slice o.A o.ln o.lc] 30)).heap.size = wr.heap.size + 1 := by simp
        have P := put_any N (N + 1) ys rb o _ (HF.out.b.below hnew) HOk.out ⟨HTv.out.1, HTv.out.2.below HAb.out (hlow.trans (hnew.mono hlow.size))⟩ (fun z a h => Nat.lt_of_lt_of_le (HAb.out z a h) hN) hln (by rw [List.length_append]; have := HLEN.out; omega)
        rw [hv] at P
        have F1 := Lib.hid (HF.out.below hnew)
        have HBX := Lib.hid hbox; have HNEW := Lib.hid hnew; have HBS := Lib.hid hbsz
        clear hv hnew hbox hbsz
        go_wp2_with fail
        refine P.mono ?_
        clear P
        rintro e w2 ⟨rfl, r', h1, h2⟩
        have HFl := HF.out.b.lt
        have HFx := HF.out.y.lt
        have hbx2 : w2.heap[wr.heap.size]? = some (.cells #[.int .i64 o.k, .bool true, .int .u64 o.u, .int .i64 o.i, .int .i64 o.n, .int .i64 o.m, .string o.s, .slice o.A o.ln o.lc] 30 (0, 0)) :=
          (h2.block _ (by rw [HBS.out]; omega) (by omega) (fun e => by have := (HFl.2.2 _ e.symm).2; omega)).trans HBX.out
        have hb2 : Below N w0 w2 := (HBN2.out.trans (HNEW.out.mono (by omega))).trans (h2.below (by rw [HBS.out]; omega) HFl.1 (fun k h => (HFl.2.2 k h).1))
        have F2 := Lib.hid (F1.out.wb h1 h2)
        have hsz2 : wr.heap.size + 1 ≤ w2.heap.size := by rw [← HBS.out]; exact h2.size
        obtain ⟨v, cx, fx, hown, hr, hfin⟩ := F2.out.y.opened
        have HB2 := Lib.hid hb2; have HBX2 := Lib.hid hbx2; have HFIN := Lib.hid hfin
        clear h1 h2 hbx2 hb2 hfin
        have hnx : N ≤ w2.heap.size := by omega
        have hl2 : ys.length + (strOfNums (putL o)).size ≤ 140737488355328 := by rw [strOfNums_size]; have := HLEN.out; omega
        go_wp2_with (first | (at_builtin; refine append_text rfl _ _ 26 9 rfl N 5 Tryd.underlying26 Tryd.underlying9 info5 _ _ rfl hown _ rfl hl2 hnx ?_))
        intro v' w3 ho hgr hat
        have ho2 : ownsB w3 N 5 v' (ys ++ putL o) := by
          have e := nums_str (byteL_put o)
          unfold nums at e
          rw [e] at ho; exact ho
        obtain ⟨A', c', hv'⟩ := ownsB_form2 ho2
        obtain ⟨L, hL⟩ : ∃ L, (ys ++ putL o).length = L := ⟨_, rfl⟩
        rw [hL] at hv'
        obtain ⟨cx2, fx2, h3, h4⟩ := HFIN.out _ _ w3 _ ho2 hgr rfl hat
        obtain ⟨vz, z1, _, z3, z4⟩ := h3.cell
        have F3 := Lib.hid (F2.out.wy h3 h4)
        have HB4 := Lib.hid (HB2.out.trans (h4.below hnx HFx.1 (fun k h => (HFx.2.2 k h).1)))
        have hkc : (w3.setCell ⟨N + 1 + 1 + 1, 0, none⟩ v').cell? ⟨wr.heap.size, 0, none⟩ = some (.int .i64 o.k) := by
          rw [h4.cell (by show wr.heap.size < _; omega) (by show wr.heap.size ≠ _; have := HFx.2.1; omega) (fun e => absurd (HFx.2.2 _ e.symm).2 (Nat.lt_irrefl _))]
          unfold World.cell?; rw [HBX2.out]; rfl
        have hvz : vz = v' := by
          have hl : N + 1 + 1 + 1 < w3.heap.size := World.block_lt_of_cell? w3 _ cx2
          have := World.cell?_setCell_same' w3 ⟨N + 1 + 1 + 1, 0, none⟩ v' (by rw [cx2]; rfl)
          rw [this] at z1
          exact (Option.some.inj z1).symm
        rw [hvz] at z1 z3
        have kc := fun n => convert_own (P := Tryd.prog) (src := 26) (dst := 9) (w := (w3.setCell ⟨N + 1 + 1 + 1, 0, none⟩ v').drewN n) z3 Tryd.underlying26 Tryd.underlying5 Tryd.underlying9
        subst hv'
        have HZ1 := Lib.hid z1; have HKC := Lib.hid hkc; have HKV := Lib.hid kc
        clear hown hr ho hgr hat ho2 h3 h4 z1 z3 z4 hvz hkc kc cx fx
        go_wp2_with fail
        generalize hw4 : w3.setCell ⟨N + 1 + 1 + 1, 0, none⟩ (.slice A' L c') = w4 at *
        clear hw4
        have x1 := HZ1.out; have x2 := HKC.out; have x3 := HKV.out
        have L1 := fun n => len_any N (N + 1) _ _ (w4.drewN n) (show Wri (w4.drewN n) N (N + 1) (ys ++ putL o) _ from F3.out.b)
        rw [hL] at L1
        have HLL := Lib.hid hL; clear hL
        have L2 := fun n => out_any N (N + 1) _ _ (w4.drewN n) (show Wri (w4.drewN n) N (N + 1) (ys ++ putL o) _ from F3.out.b)
        cases h9 : (o.k == 9) with
        | false =>
          go_quiet (fail)
          go_wp2
          go_roundw
          case rel => exact ⟨k + 1, by go_num, by omega, xs, ys ++ putL o, _, _, _, _, (F3.out.below (below_drewN (Below.refl _ _) _)), (below_drewN HB4.out _), by have := HLEN.out; show _ ≤ wsum ops k + (putL (ops k)).length; rw [HOE.out, List.length_append]; omega⟩
          case measure => simp [intOf]; omega
        | true =>
          go_quiet ((first | (go_at_call 12; exact Calls.quiet_of_same ((L1 _).mono fun e w' h => ⟨h.1, h.2.symm⟩)) | (go_at_call 13; exact Calls.quiet_of_same ((L2 _).mono fun e w' h => ⟨h.1, h.2.symm⟩))))
          go_wp2
          go_roundw
          case rel => exact ⟨k + 1, by go_num, by omega, xs, ys ++ putL o, _, _, _, _, (F3.out.below (below_drewN (Below.refl _ _) _)), (below_drewN HB4.out _), by have := HLEN.out; show _ ≤ wsum ops k + (putL (ops k)).length; rw [HOE.out, List.length_append]; omega⟩
          case measure => simp [intOf]; omega
    · obtain rfl : k = n := by omega
      obtain ⟨xs, ys, ra, rb, rx, ry, hF, hbN, hlen⟩ := hh.out
      obtain ⟨vx, x1, _, x3, _⟩ := hF.x.cell
      obtain ⟨vy, y1, _, y3, _⟩ := hF.y.cell
      have kcx := fun n => convert_own (P := Tryd.prog) (src := 26) (dst := 9) (w := wr.drewN n) x3 Tryd.underlying26 Tryd.underlying5 Tryd.underlying9
      have kcy := fun n => convert_own (P := Tryd.prog) (src := 26) (dst := 9) (w := wr.drewN n) y3 Tryd.underlying26 Tryd.underlying5 Tryd.underlying9
      obtain ⟨Ax, cx, hvx⟩ := ownsB_form2 x3
      obtain ⟨Ay, cy, hvy⟩ := ownsB_form2 y3
      have La1 := fun n => len_any N N _ _ (wr.drewN n) (show Wri (wr.drewN n) N N xs _ from hF.a)
      have La2 := fun n => out_any N N _ _ (wr.drewN n) (show Wri (wr.drewN n) N N xs _ from hF.a)
      have Lb1 := fun n => len_any N (N + 1) _ _ (wr.drewN n) (show Wri (wr.drewN n) N (N + 1) ys _ from hF.b)
      have Lb2 := fun n => out_any N (N + 1) _ _ (wr.drewN n) (show Wri (wr.drewN n) N (N + 1) ys _ from hF.b)
      subst hvx hvy
      have HBF := Lib.hid (HB0.out.trans (hbN.mono hN))
      clear hF hbN hlen hh x3 y3
      generalize strOfNums xs = sx at *
      generalize strOfNums ys = sy at *
      generalize xs.length = lx at *
      generalize ys.length = ly at *
      go_wp2_with fail
      go_quiet ((first | (go_at_call 13; exact Calls.quiet_of_same ((La2 _).mono fun e w' h => ⟨h.1, h.2.symm⟩)) | (go_at_call 13; exact Calls.quiet_of_same ((Lb2 _).mono fun e w' h => ⟨h.1, h.2.symm⟩)) | (go_at_call 12; exact Calls.quiet_of_same ((La1 _).mono fun e w' h => ⟨h.1, h.2.symm⟩)) | (go_at_call 12; exact Calls.quiet_of_same ((Lb1 _).mono fun e w' h => ⟨h.1, h.2.symm⟩))))
      go_wp2
      go_ret
      exact ⟨rfl, below_drewN HBF.out _⟩
end Go.Proofs.YtnodjcapclkmhaaDoor
