/- The Reader's plain calls and Uint: walked. -/
import Derived.Test.YtnodjcapclkmhaaDoorNum
import Derived.Test.YtnodjcapclkmhaaDoorMem
namespace Go.Proofs.YtnodjcapclkmhaaDoor
open Go.RowKit

/-- The errors lie where they lay when the call began; its own blocks begin at B0. -/
def EnvB (B0 : Nat) (w : World) (B : Nat → Addr) : Prop := ∃ w0, Env w0 B ∧ w0.heap.size = B0 ∧ Below B0 w0 w
theorem EnvB.env {B0 : Nat} {w : World} {B : Nat → Addr} (h : EnvB B0 w B) : Env w B := by
  obtain ⟨w0, h1, rfl, h2⟩ := h; exact h1.below h2
theorem EnvB.below {B0 : Nat} {w w' : World} {B : Nat → Addr} (h : EnvB B0 w B) (hb : Below B0 w w') : EnvB B0 w' B := by
  obtain ⟨w0, h1, h2, h3⟩ := h; exact ⟨w0, h1, h2, h3.trans hb⟩
theorem EnvB.lt {B0 : Nat} {w : World} {B : Nat → Addr} (h : EnvB B0 w B) : B0 ≤ w.heap.size := by
  obtain ⟨w0, h1, rfl, h2⟩ := h; exact h2.size
theorem Env.base {w : World} {B : Nat → Addr} (h : Env w B) : EnvB w.heap.size w B := ⟨w, h, rfl, Below.refl _ _⟩
theorem EnvB.wrote {B0 g : Nat} {w w' : World} {B : Nat → Addr} {r r' : Option Nat} (h : EnvB B0 w B) (hw : Wrote w w' g r r') (hg : B0 ≤ g) (hr : ∀ k, r = some k → B0 ≤ k) : EnvB B0 w' B := h.below (hw.below h.lt hg hr)

/-- A Reader at block g over s, at place p. -/
def Rdr (w : World) (g : Nat) (s : ByteArray) (p : Nat) : Prop := w.heap[g]? = some (.cells #[.string s, .int .i64 p] 85 (0, 0))
theorem Rdr.cells {w : World} {g : Nat} {s : ByteArray} {p : Nat} (h : Rdr w g s p) : w.cell? ⟨g, 0, none⟩ = some (.string s) ∧ w.cell? ⟨g, 1, none⟩ = some (.int .i64 p) ∧ w.frozen? ⟨g, 1, none⟩ = false ∧ g < w.heap.size := by
  unfold Rdr at h
  refine ⟨by simp [World.cell?, h], by simp [World.cell?, h], by simp [World.frozen?, h], ?_⟩
  rcases Nat.lt_or_ge g w.heap.size with h' | h'
  · exact h'
  · rw [Array.getElem?_eq_none h'] at h; cases h
theorem Rdr.drewN {w : World} {g : Nat} {s : ByteArray} {p : Nat} (h : Rdr w g s p) (n : Nat) : Rdr (w.drewN n) g s p := h
theorem Wrote.drewN {w w' : World} {g : Nat} {r r' : Option Nat} (h : Wrote w w' g r r') (n : Nat) : Wrote w (w'.drewN n) g r r' := ⟨h.os, h.tape, h.output, h.size, h.block, h.row⟩
theorem Rdr.store {w : World} {g : Nat} {s : ByteArray} {p : Nat} (h : Rdr w g s p) (q : Int) : (w.setCell ⟨g, 1, none⟩ (.int .i64 q)).heap[g]? = some (.cells #[.string s, .int .i64 q] 85 (0, 0)) := by
  show (w.heap.modify g _)[g]? = _
  rw [Array.getElem?_modify, if_pos rfl, h]
  rfl
theorem Wrote.store (w : World) (g : Nat) (u : Value) : Wrote w (w.setCell ⟨g, 1, none⟩ u) g none none :=
  ⟨rfl, rfl, rfl, by simp [World.setCell], fun k _ hk _ => Below.heap_setCell w ⟨g, 1, none⟩ u k hk, .inl rfl⟩

theorem rdr_done {w wr : World} {g : Nat} {s : ByteArray} {p k : Nat} {q : Int} {q' : Nat} (hR : Rdr wr g s p) (hW : Wrote w wr g none none) (hq : q = (q' : Int)) :
    Rdr ((wr.drewN k).setCell ⟨g, 1, none⟩ (.int .i64 q)) g s q' ∧ Wrote w ((wr.drewN k).setCell ⟨g, 1, none⟩ (.int .i64 q)) g none none := by
  subst hq
  exact ⟨(hR.drewN k).store q', (hW.drewN k).trans (Wrote.store _ _ _)⟩

theorem read_any (s : ByteArray) (w : World) : Calls Tryd.prog 17 #[.string s] w fun e w' => e = .returned (.pointer (some ⟨w.heap.size, 0, none⟩)) ∧ w' = w.alloc (.cells #[.string s, .int .i64 0] 85) := by
  go_enter Tryd.func17, Tryd.ntmps17
  go_wp2
  go_ret
  exact ⟨rfl, rfl⟩
theorem new_rdr (w : World) (s : ByteArray) : Rdr (w.alloc (.cells #[.string s, .int .i64 0] 85)) w.heap.size s 0 := heap_alloc_new w _

set_option maxRecDepth 100000 in
theorem left_any (g : Nat) (s : ByteArray) (p : Nat) (w : World) (hR : Rdr w g s p) (hp : p ≤ s.size) (hs : s.size ≤ 9223372036854775800) :
    Calls Tryd.prog 24 #[.pointer (some ⟨g, 0, none⟩)] w fun e w' => e = .returned (.int .i64 ((s.size - p : Nat) : Int)) ∧ ∃ n, w' = w.drewN n := by
  obtain ⟨c0, c1, f1, hg⟩ := hR.cells
  have e : ((s.size - p : Nat) : Int) = (s.size : Int) - (p : Int) := by omega
  rw [e]
  clear e hR
  go_enter Tryd.func24, Tryd.ntmps24
  go_wp2
  go_quiet (fail)
  go_wp2
  go_ret
  exact ⟨rfl, _, rfl⟩
theorem at_any (g : Nat) (s : ByteArray) (p : Nat) (w : World) (hR : Rdr w g s p) :
    Calls Tryd.prog 23 #[.pointer (some ⟨g, 0, none⟩)] w fun e w' => e = .returned (.int .i64 p) ∧ w = w' := by
  obtain ⟨c0, c1, f1, hg⟩ := hR.cells
  clear hR
  go_enter Tryd.func23, Tryd.ntmps23
  go_wp2
  go_ret
  exact ⟨rfl, rfl⟩
/-- The number of Done's error. -/
def doneE (s : ByteArray) (p : Nat) : Nat := if p < s.size then 5 else 0
set_option maxRecDepth 100000 in
theorem done_any (B : Nat → Addr) (g : Nat) (s : ByteArray) (p : Nat) (w : World) (hE : Env w B) (hR : Rdr w g s p) (hp : p ≤ s.size) (hs : s.size ≤ 9223372036854775800) :
    Calls Tryd.prog 26 #[.pointer (some ⟨g, 0, none⟩)] w fun e w' => e = .returned (ev B (doneE s p)) ∧ ∃ n, w' = w.drewN n := by
  have a1 := left_any g s p w hR hp hs
  have c0 := hE.cell 0 (by decide)
  clear hE hR
  unfold doneE
  by_cases h : p < s.size
  · have h' : (0 : Int) < ((s.size - p : Nat) : Int) := by omega
    rw [if_pos h, show ev B 5 = .iface 123 (.pointer (some (B 0))) from rfl]
    generalize s.size - p = m at *
    go_enter Tryd.func26, Tryd.ntmps26
    go_wp2_with fail
    refine a1.mono ?_
    rintro e w' ⟨rfl, n, rfl⟩
    go_wp2
    go_ret
    exact ⟨rfl, n, rfl⟩
  · have h' : ¬ (0 : Int) < ((s.size - p : Nat) : Int) := by omega
    rw [if_neg h, show ev B 0 = .nilIface from rfl]
    generalize s.size - p = m at *
    go_enter Tryd.func26, Tryd.ntmps26
    go_wp2_with fail
    refine a1.mono ?_
    rintro e w' ⟨rfl, n, rfl⟩
    go_wp2
    go_ret
    exact ⟨rfl, n, rfl⟩

/-- The byte at place i. -/
def byt (s : ByteArray) (i : Nat) : Nat := if h : i < s.size then s[i].toNat else 0
theorem byt_lt (s : ByteArray) (i : Nat) : byt s i < 256 := by
  unfold byt; split
  · exact UInt8.toNat_lt _
  · decide
/-- A varint at p, i of its bytes being read, which make x: the number and the place behind it, or the error's number. -/
def uG (s : ByteArray) (p i x : Nat) : Except Nat (Nat × Nat) :=
  if _h : p + i < s.size then
    if i = 9 ∧ 1 < byt s (p + i) then .error 2
    else if byt s (p + i) < 128 then (if byt s (p + i) = 0 ∧ 0 < i then .error 2 else .ok (x + byt s (p + i) % 128 * 2 ^ (7 * i), p + i + 1))
    else uG s p (i + 1) (x + byt s (p + i) % 128 * 2 ^ (7 * i))
  else .error 1
termination_by s.size - (p + i)

theorem uG_at (s : ByteArray) (p i x : Nat) (h : p + i < s.size) : uG s p i x = if i = 9 ∧ 1 < byt s (p + i) then .error 2
    else if byt s (p + i) < 128 then (if byt s (p + i) = 0 ∧ 0 < i then .error 2 else .ok (x + byt s (p + i) % 128 * 2 ^ (7 * i), p + i + 1))
    else uG s p (i + 1) (x + byt s (p + i) % 128 * 2 ^ (7 * i)) := by rw [uG, dif_pos h]

/-- What Uint answers. -/
def uV (B : Nat → Addr) : Except Nat (Nat × Nat) → Value
  | .ok (x, _) => .tuple #[.int .u64 x, .nilIface]
  | .error e => .tuple #[.int .u64 0, ev B e]
/-- The place behind a read. -/
def uP (p : Nat) {α : Type} : Except Nat (α × Nat) → Nat
  | .ok (_, q) => q
  | .error _ => p

theorem index_str (s : ByteArray) (p i : Nat) (w : World) (h : p + i < s.size) : (Instr.index 9 (.string s) (.int .i64 ((p : Int) + (i : Int)))).run Tryd.prog w = .ok (.int .u8 (byt s (p + i) : Nat)) w := by
  have hr := run_index_string (P := Tryd.prog) w 9 s .i64 ((p + i : Nat) : Int) Tryd.underlying9
  rw [dif_pos ⟨by omega, by omega⟩] at hr
  have e1 : (p : Int) + (i : Int) = ((p + i : Nat) : Int) := by omega
  rw [e1, hr]
  unfold byt
  rw [dif_pos h]
  rfl
theorem and127 (b : Nat) (h : b < 256) : bits .and .u8 (b : Int) 127 = ((b % 128 : Nat) : Int) := by
  have := u8_and_nat b 127 h (by decide)
  rw [nat_mask7] at this
  exact this

theorem or_join (x b i : Nat) (hx : x < 2 ^ (7 * i)) (hi : i ≤ 9) (hb : i = 9 → b ≤ 1) :
    bits .or .u64 (x : Int) (IntKind.u64.wrap ((b : Int) % 128 * 2 ^ (7 * i))) = ((x + b % 128 * 2 ^ (7 * i) : Nat) : Int) ∧ x + b % 128 * 2 ^ (7 * i) < 2 ^ (7 * (i + 1)) ∧ x + b % 128 * 2 ^ (7 * i) < 18446744073709551616 := by
  have hpow : (2 : Nat) ^ (7 * (i + 1)) = 128 * 2 ^ (7 * i) := by rw [show 7 * (i + 1) = 7 * i + 7 by omega, Nat.pow_add]; omega
  have h63 : (2 : Nat) ^ (7 * i) ≤ 2 ^ 63 := Nat.pow_le_pow_right (by decide) (by omega)
  have h56 : i ≤ 8 → (2 : Nat) ^ (7 * i) ≤ 2 ^ 56 := fun h => Nat.pow_le_pow_right (by decide) (by omega)
  have hj := nat_join (7 * i) (b % 128 * 2 ^ (7 * i)) x (Nat.mul_mod_left _ _) hx
  have hcast : ((b : Int) % 128 * 2 ^ (7 * i)) = ((b % 128 * 2 ^ (7 * i) : Nat) : Int) := by
    rw [Int.natCast_mul, Int.natCast_pow]; rfl
  rw [hcast, hpow]
  generalize hP : (2 : Nat) ^ (7 * i) = P at *
  have h127 : b % 128 * P ≤ 127 * P := Nat.mul_le_mul_right _ (by omega)
  have hle : b % 128 * P ≤ 9223372036854775808 := by
    by_cases h9 : i = 9
    · have := hb h9
      have : b % 128 * P ≤ 1 * P := Nat.mul_le_mul_right _ (by omega)
      omega
    · have := h56 (by omega)
      omega
  generalize b % 128 * P = Y at *
  refine ⟨?_, by omega, by omega⟩
  rw [IntKind.wrap_u64, show ((Y : Int)) % 18446744073709551616 = ((Y : Nat) : Int) by omega, u64_or_nat _ _ (by omega) (by omega), Nat.or_comm, hj, Nat.add_comm]

set_option maxRecDepth 100000 in
set_option maxHeartbeats 2000000 in
theorem rUint_any (B : Nat → Addr) (B0 g : Nat) (s : ByteArray) (p : Nat) (w : World) (hE : EnvB B0 w B) (hg0 : B0 ≤ g) (hR : Rdr w g s p) (hp : p ≤ s.size) (hs : s.size ≤ 9223372036854770000) :
    Calls Tryd.prog 34 #[.pointer (some ⟨g, 0, none⟩)] w fun e w' => e = .returned (uV B (uG s p 0 0)) ∧ Rdr w' g s (uP p (uG s p 0 0)) ∧ Wrote w w' g none none := by
  have HE := Lib.hid hE; clear hE
  go_enter Tryd.func34, Tryd.ntmps34
  go_wp2
  go_loopw [4, 5, 6] (fun vx vi _ wr => ∃ (i x : Nat), vx = .int .u64 x ∧ vi = .int .i64 i ∧ i ≤ 9 ∧ Hid (x < 2 ^ (7 * i)) ∧ p + i ≤ s.size ∧ Hid (uG s p 0 0 = uG s p i x ∧ Rdr wr g s p ∧ Wrote w wr g none none)) (fun _ vi _ _ => 10 - (intOf vi).toNat)
  case atStart => exact ⟨0, 0, rfl, rfl, by omega, (by decide : 0 < 1), by omega, rfl, hR, Wrote.refl _ _ _⟩
  case round =>
    obtain ⟨i, x, rfl, rfl, hi, hx, hpi, hh⟩ := hrel
    obtain ⟨hu, hr, hw⟩ := hh.out
    have a1 := left_any g s p wr hr hp (by omega)
    have HU := Lib.hid hu; have HR := Lib.hid hr; have HW := Lib.hid hw; clear hu hr hw hh
    have hew := (HE.out.wrote HW.out hg0 (fun k h => by cases h)).env
    have g1 := hew.cell 1 (by decide)
    have g2 := hew.cell 2 (by decide)
    have HEW := Lib.hid hew; clear hew
    by_cases h : p + i < s.size
    · have hm : ((i : Int) == ((s.size - p : Nat) : Int)) = false := by simp; omega
      have hb8 := byt_lt s (p + i)
      have kix := fun w : World => index_str s p i w h
      have kan := and127 _ hb8
      have hug := uG_at s p i x h
      rw [← HU.out] at hug
      obtain ⟨c0, c1, f1, hgl⟩ := HR.out.cells
      generalize s.size - p = m at *
      generalize byt s (p + i) = b at *
      have HUG := Lib.hid hug; clear hug
      have hor := or_join x b i hx.out hi
      have HHOR := Lib.hid hor; clear hor
      by_cases h9 : i = 9
      · subst h9
        have h9' : (((9 : Nat) : Int) == 9) = true := rfl
        rw [show ((9 : Nat) : Int) = 9 from rfl] at kix
        cases hb1 : decide ((1 : Int) < (b : Int)) with
        | true =>
          have hb1' := of_decide_eq_true hb1
          have HRES := Lib.hid (HUG.out.trans (if_pos ⟨rfl, by omega⟩))
          go_wp2_with fail
          refine a1.mono ?_
          rintro e w' ⟨rfl, n, rfl⟩
          go_wp2
          go_quiet (fail)
          go_wp2
          go_quiet (fail)
          go_wp2
          go_ret2
          rw [HRES.out]
          exact ⟨rfl, HR.out, ⟨HW.out.os, HW.out.tape, HW.out.output, HW.out.size, HW.out.block, HW.out.row⟩⟩
        | false =>
          have hb1' := of_decide_eq_false hb1
          have hb2 : b = 0 ∨ b = 1 := by omega
          rcases hb2 with rfl | rfl
          · have HRES := Lib.hid (HUG.out.trans ((if_neg (by omega)).trans ((if_pos (by decide)).trans (if_pos ⟨rfl, by decide⟩))))
            go_wp2_with fail
            refine a1.mono ?_
            rintro e w' ⟨rfl, n, rfl⟩
            go_wp2
            go_quiet (fail)
            go_wp2
            go_quiet (fail)
            go_wp2
            go_ret2
            rw [HRES.out]
            exact ⟨rfl, HR.out, ⟨HW.out.os, HW.out.tape, HW.out.output, HW.out.size, HW.out.block, HW.out.row⟩⟩
          · have HRES := Lib.hid (HUG.out.trans ((if_neg (by omega)).trans ((if_pos (by decide)).trans (if_neg (by omega)))))
            have kan1 : bits BinOp.and IntKind.u8 1 127 = 1 := kan
            go_wp2_with fail
            refine a1.mono ?_
            rintro e w' ⟨rfl, n, rfl⟩
            go_wp2
            go_quiet (fail)
            go_wp2
            go_ret2
            rw [HRES.out]
            exact ⟨by
                show Ending.returned _ = Ending.returned (.tuple #[.int .u64 ((x + 1 % 128 * 2 ^ (7 * 9) : Nat) : Int), .nilIface])
                rw [← (HHOR.out (fun _ => Nat.le_refl 1)).1]; rfl, (rdr_done (q' := p + 9 + 1) HR.out HW.out (by omega)).1, (rdr_done (q' := p + 9 + 1) HR.out HW.out (by omega)).2⟩
      · have h9' : ((i : Int) == 9) = false := by simp; omega
        have h9n : ¬ (i : Int) = 9 := by omega
        have HOR := Lib.hid (HHOR.out (fun h => absurd h h9)).1
        cases hb7 : decide ((b : Int) < 128) with
        | false =>
          have hb7' := of_decide_eq_false hb7
          have HRES := Lib.hid (HUG.out.trans ((if_neg (fun h => h9 h.1)).trans (if_neg (by omega))))
          go_wp2_with fail
          refine a1.mono ?_
          rintro e w' ⟨rfl, n, rfl⟩
          go_wp2
          go_quiet (fail)
          go_wp2
          go_roundw
          case rel => exact ⟨i + 1, _, by rw [HOR.out], by go_num, by omega, (HHOR.out (fun h => absurd h h9)).2.1, by omega, HRES.out, HR.out, HW.out.drewN _⟩
          case measure => simp [intOf]; omega
        | true =>
          have hb7' := of_decide_eq_true hb7
          cases hb0 : ((b : Int) == 0) with
          | true =>
            obtain rfl : b = 0 := by have := beq_iff_eq.1 hb0; omega
            have kan0 : bits BinOp.and IntKind.u8 0 127 = 0 := kan
            by_cases hi0 : 0 < i
            · have hi0' : (0 : Int) < (i : Int) := by omega
              have HRES := Lib.hid (HUG.out.trans ((if_neg (fun h => h9 h.1)).trans ((if_pos (by omega)).trans (if_pos ⟨rfl, hi0⟩))))
              go_wp2_with fail
              refine a1.mono ?_
              rintro e w' ⟨rfl, n, rfl⟩
              go_wp2
              go_quiet (fail)
              go_wp2
              go_quiet (fail)
              go_wp2
              go_ret2
              rw [HRES.out]
              exact ⟨rfl, HR.out, ⟨HW.out.os, HW.out.tape, HW.out.output, HW.out.size, HW.out.block, HW.out.row⟩⟩
            · have HRES := Lib.hid (HUG.out.trans ((if_neg (fun h => h9 h.1)).trans ((if_pos (by omega)).trans (if_neg (fun h => hi0 h.2)))))
              have hi0' : ¬ (0 : Int) < (i : Int) := by omega
              have hor0 : bits .or .u64 (x : Int) 0 = (x : Int) := by
                have h1 := u64_or_nat x 0 (by have := (HHOR.out (fun h => absurd h h9)).2.2; omega) (by decide)
                rw [Nat.or_zero] at h1
                exact h1
              go_wp2_with fail
              refine a1.mono ?_
              rintro e w' ⟨rfl, n, rfl⟩
              go_wp2
              go_quiet (fail)
              go_wp2
              go_ret2
              rw [HRES.out]
              exact ⟨by
                  show Ending.returned _ = Ending.returned (.tuple #[.int .u64 ((x + 0 % 128 * 2 ^ (7 * i) : Nat) : Int), .nilIface])
                  rw [show x + 0 % 128 * 2 ^ (7 * i) = x by simp]; rfl, (rdr_done (q' := p + i + 1) HR.out HW.out (by omega)).1, (rdr_done (q' := p + i + 1) HR.out HW.out (by omega)).2⟩
          | false =>
            have b0 : b ≠ 0 := by rintro rfl; cases hb0
            have HRES := Lib.hid (HUG.out.trans ((if_neg (fun h => h9 h.1)).trans ((if_pos (by omega)).trans (if_neg (fun h => b0 h.1)))))
            go_wp2_with fail
            refine a1.mono ?_
            rintro e w' ⟨rfl, n, rfl⟩
            go_wp2
            go_quiet (fail)
            go_wp2
            go_ret2
            rw [HRES.out]
            exact ⟨by
                show Ending.returned _ = Ending.returned (.tuple #[.int .u64 ((x + b % 128 * 2 ^ (7 * i) : Nat) : Int), .nilIface])
                rw [← HOR.out]; rfl, (rdr_done (q' := p + i + 1) HR.out HW.out (by omega)).1, (rdr_done (q' := p + i + 1) HR.out HW.out (by omega)).2⟩
    · have hm : ((i : Int) == ((s.size - p : Nat) : Int)) = true := by simp; omega
      have hres : uG s p 0 0 = .error 1 := by rw [HU.out, uG, dif_neg h]
      generalize s.size - p = m at *
      go_wp2_with fail
      refine a1.mono ?_
      rintro e w' ⟨rfl, n, rfl⟩
      go_wp2
      go_quiet (fail)
      go_wp2
      go_ret2
      rw [hres]
      exact ⟨rfl, HR.out, (HW.out.drewN _).drewN _⟩
end Go.Proofs.YtnodjcapclkmhaaDoor
