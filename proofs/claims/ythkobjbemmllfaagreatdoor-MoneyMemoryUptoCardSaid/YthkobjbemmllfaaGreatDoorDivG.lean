/- math/big: divW of a number of two words; division by one word of any number of at most two: walked. -/
import Derived.Test.YthkobjbemmllfaaGreatDoorDivE
import Derived.Test.YthkobjbemmllfaaGreatDoorBigN
import Derived.Test.YthkobjbemmllfaaGreatDoorBigQ
namespace Go.Proofs.YthkobjbemmllfaaGreatDoor
open Go.RowKit

theorem div64_any (hi lo y : Nat) (h : hi < y) (hl : lo < 18446744073709551616) (hy : y < 18446744073709551616) (w : World) :
    Calls Tryz.prog 199 #[.int .u64 hi, .int .u64 lo, .int .u64 y] w fun e w' => e = .returned (.tuple #[.int .u64 (((hi * 18446744073709551616 + lo) / y : Nat) : Int), .int .u64 (((hi * 18446744073709551616 + lo) % y : Nat) : Int)]) ∧ ∃ k, w' = w.drewN k := by
  rcases Nat.eq_zero_or_pos hi with rfl | h0
  · have a := div64_low lo y hl (by omega) hy w
    rw [Nat.zero_mul, Nat.zero_add]
    exact a
  · refine (div64_big hi lo y h0 h hl hy w).mono ?_
    rintro e w' ⟨rfl, rfl⟩
    exact ⟨rfl, 0, rfl⟩
theorem div_any (hi lo y : Nat) (h : hi < y) (hl : lo < 18446744073709551616) (hy : y < 18446744073709551616) (w : World) :
    Calls Tryz.prog 179 #[.int .u64 hi, .int .u64 lo, .int .u64 y] w fun e w' => e = .returned (.tuple #[.int .u64 (((hi * 18446744073709551616 + lo) / y : Nat) : Int), .int .u64 (((hi * 18446744073709551616 + lo) % y : Nat) : Int)]) ∧ ∃ k, w' = w.drewN k := by
  have a1 := div64_any hi lo y h hl hy w
  clear h hl hy
  obtain ⟨q, hq⟩ : ∃ q, q = (hi * 18446744073709551616 + lo) / y := ⟨_, rfl⟩
  obtain ⟨r, hr⟩ : ∃ r, r = (hi * 18446744073709551616 + lo) % y := ⟨_, rfl⟩
  rw [← hq, ← hr] at a1 ⊢
  clear hq hr
  go_enter Tryz.func179, Tryz.ntmps179
  go_wp2_with fail
  refine a1.mono ?_
  clear a1
  rintro e w' ⟨rfl, k, rfl⟩
  go_wp2
  go_ret2
  exact ⟨rfl, _, rfl⟩
theorem xor_max (y : Nat) (h : y < 18446744073709551616) : bits .xor .u64 IntKind.u64.max (y : Int) = ((18446744073709551615 - y : Nat) : Int) := by
  have h2 : (BitVec.ofInt 64 (y : Int)).toNat = y := by
    rw [BitVec.ofInt_natCast, BitVec.toNat_ofNat]; exact Nat.mod_eq_of_lt (by omega)
  have h1 : BitVec.ofInt 64 IntKind.u64.max = BitVec.allOnes 64 := by decide
  show IntKind.u64.wrap ((BitVec.ofInt 64 IntKind.u64.max ^^^ BitVec.ofInt 64 (y : Int)).toNat : Int) = _
  rw [h1, BitVec.allOnes_xor, BitVec.toNat_not, h2, IntKind.wrap_u64]
  omega
def RecPost (Y : Nat) (w : World) (e : Ending) (w' : World) : Prop := ∃ m : Nat, e = .returned (.int .u64 m) ∧ Recip Y m ∧ ∃ k, w' = w.drewN k
set_option maxRecDepth 100000 in
theorem recip_any (y s : Nat) (hN : Norm y s) (hsl : 64 - Lib.bitLen y = s) (w : World) : Calls Tryz.prog 180 #[.int .u64 y] w (RecPost (y * 2 ^ s) w) := by
  have hyY : y * 1 ≤ y * 2 ^ s := Nat.mul_le_mul_left y (Nat.two_pow_pos s)
  have a1 := nlz_any y (by have := hN.hi; omega) w
  rw [hsl] at a1
  have hs63 := hN.le
  obtain ⟨Y, hY⟩ : ∃ Y, Y = y * 2 ^ s := ⟨_, rfl⟩
  have hlo := hN.lo; have hhi := hN.hi
  have E1 : IntKind.u64.wrap ((y : Int) * 2 ^ s) = (Y : Int) := by rw [wshl, ← hY, Nat.mod_eq_of_lt (by omega)]
  rw [← hY] at hlo hhi ⊢
  have a2 := div_any (18446744073709551615 - Y) 18446744073709551615 Y (by omega) (by decide) hhi w
  have HR := Lib.hid (recip_of hlo hhi)
  obtain ⟨m, hm⟩ : ∃ m, m = ((18446744073709551615 - Y) * 18446744073709551616 + 18446744073709551615) / Y := ⟨_, rfl⟩
  rw [← hm] at a2 HR
  obtain ⟨r, hr⟩ : ∃ r, r = ((18446744073709551615 - Y) * 18446744073709551616 + 18446744073709551615) % Y := ⟨_, rfl⟩
  rw [← hr] at a2
  obtain ⟨X, hX⟩ : ∃ X, X = 18446744073709551615 - Y := ⟨_, rfl⟩
  rw [← hX] at a2
  have hx := xor_max Y hhi
  rw [← hX] at hx
  clear hyY hN hsl hY hlo hhi hm hr hX
  go_enter Tryz.func180, Tryz.ntmps180
  go_wp2_with fail
  refine a1.mono ?_
  clear a1
  rintro e w' ⟨rfl, rfl⟩
  go_wp2_with fail
  refine a2.mono ?_
  clear a2
  rintro e w' ⟨rfl, k, rfl⟩
  go_wp2
  go_ret
  exact ⟨m, rfl, HR.out, k, rfl⟩

set_option maxRecDepth 100000 in
set_option maxHeartbeats 2000000 in
theorem divWVW_two (gz gx cz cx f0 f1 y : Nat) (w : World) (h0 : ∃ u, w.cell? ⟨gz, 0, none⟩ = some u) (h1 : ∃ u, w.cell? ⟨gz, 1, none⟩ = some u) (hf0 : w.frozen? ⟨gz, 0, none⟩ = false) (hf1 : w.frozen? ⟨gz, 1, none⟩ = false)
    (hx0 : w.cell? ⟨gx, 0, none⟩ = some (.int .u64 f0)) (hx1 : w.cell? ⟨gx, 1, none⟩ = some (.int .u64 f1)) (hne : gz ≠ gx) (hl0 : f0 < 18446744073709551616) (hl1 : f1 < 18446744073709551616) (hy : 0 < y) (hy1 : y < 18446744073709551616) :
    Calls Tryz.prog 154 #[.slice (some ⟨gz, 0, none⟩) 2 cz, .int .u64 0, .slice (some ⟨gx, 0, none⟩) 2 cx, .int .u64 y] w fun e w' => e = .returned (.int .u64 (((f1 % y * 18446744073709551616 + f0) % y : Nat) : Int)) ∧
      ∃ k, w' = ((w.setCell ⟨gz, 1, none⟩ (.int .u64 ((f1 / y : Nat) : Int))).setCell ⟨gz, 0, none⟩ (.int .u64 (((f1 % y * 18446744073709551616 + f0) / y : Nat) : Int))).drewN k := by
  obtain ⟨u0, h0⟩ := h0
  obtain ⟨u1, h1⟩ := h1
  have hN := norm_of hy hy1
  have a1 := recip_any y _ hN rfl w
  have a2 : ∀ m, Recip (y * 2 ^ (64 - Lib.bitLen y)) m → ∀ w, Calls Tryz.prog 181 #[.int .u64 0, .int .u64 f1, .int .u64 y, .int .u64 m] w fun e w' => e = .returned (.tuple #[.int .u64 ((f1 / y : Nat) : Int), .int .u64 ((f1 % y : Nat) : Int)]) ∧ w = w' := fun m hm w => by
    have := divWW_any 0 f1 y m _ hN rfl hm hy hl1 w
    rw [Nat.zero_mul, Nat.zero_add] at this
    exact this
  have a3 : ∀ m, Recip (y * 2 ^ (64 - Lib.bitLen y)) m → ∀ w, Calls Tryz.prog 181 #[.int .u64 ((f1 % y : Nat) : Int), .int .u64 f0, .int .u64 y, .int .u64 m] w fun e w' => e = .returned (.tuple #[.int .u64 (((f1 % y * 18446744073709551616 + f0) / y : Nat) : Int), .int .u64 (((f1 % y * 18446744073709551616 + f0) % y : Nat) : Int)]) ∧ w = w' := fun m hm w =>
    divWW_any (f1 % y) f0 y m _ hN rfl hm (Nat.mod_lt _ hy) hl0 w
  obtain ⟨q0, hq0⟩ : ∃ q, q = (f1 % y * 18446744073709551616 + f0) / y := ⟨_, rfl⟩
  obtain ⟨r0, hr0⟩ : ∃ q, q = (f1 % y * 18446744073709551616 + f0) % y := ⟨_, rfl⟩
  obtain ⟨q1, hq1⟩ : ∃ q, q = f1 / y := ⟨_, rfl⟩
  obtain ⟨r1, hr1⟩ : ∃ q, q = f1 % y := ⟨_, rfl⟩
  rw [← hq0, ← hr0] at a3 ⊢
  rw [← hr1] at a3 a2
  rw [← hq1] at a2 ⊢
  have A2 := Lib.hid a2; have A3 := Lib.hid a3
  clear hN hl0 hl1 hy hy1 a2 a3 hq0 hr0 hq1 hr1
  generalize y * 2 ^ (64 - Lib.bitLen y) = Y at *
  go_enter Tryz.func154, Tryz.ntmps154
  go_wp2_with fail
  refine a1.mono ?_
  clear a1
  rintro e w' ⟨m, rfl, hm, k, rfl⟩
  have A2' := A2.out m hm
  have A3' := A3.out m hm
  clear A2 A3 hm
  go_wp2_with fail
  refine wp_loop_rounds 3 ?_
  rw [rounds_succ]
  go_wp2_with fail
  refine (A2' _).mono ?_
  rintro e w' ⟨rfl, rfl⟩
  go_wp2_with fail
  rw [rounds_succ]
  have k1 : ((w.setCell ⟨gz, 1, none⟩ (.int .u64 (q1 : Int))).drewN k).cell? ⟨gx, 0, none⟩ = some (.int .u64 f0) := by
    show (w.setCell ⟨gz, 1, none⟩ (.int .u64 (q1 : Int))).cell? ⟨gx, 0, none⟩ = _
    rw [World.cell?_setCell_other (h := fun e => hne (congrArg Addr.block e))]; exact hx0
  go_wp2_with fail
  refine (A3' _).mono ?_
  rintro e w' ⟨rfl, rfl⟩
  go_wp2_with fail
  rw [rounds_succ]
  go_wp2
  go_ret
  exact ⟨rfl, k, rfl⟩
end Go.Proofs.YthkobjbemmllfaaGreatDoor
namespace Go.Proofs.YthkobjbemmllfaaGreatDoor
open Go.RowKit

theorem two_words (f0 f1 y : Nat) (hy : 0 < y) : (f0 + 18446744073709551616 * f1) / y = (f1 % y * 18446744073709551616 + f0) / y + 18446744073709551616 * (f1 / y) ∧ (f0 + 18446744073709551616 * f1) % y = (f1 % y * 18446744073709551616 + f0) % y := by
  have h := two_digits 0 f0 f1 y 18446744073709551616 hy
  rw [Nat.zero_mul, Nat.zero_add] at h
  rw [show f0 + 18446744073709551616 * f1 = f1 * 18446744073709551616 + f0 by omega, h.1, h.2]
  refine ⟨?_, rfl⟩
  generalize (f1 % y * 18446744073709551616 + f0) / y = a
  generalize f1 / y = b
  omega
set_option maxRecDepth 100000 in
set_option maxHeartbeats 1000000 in
theorem divW_two (base g c y : Nat) (f : Nat → Nat) (w : World) (hB : Blk w g c f) (hc : 2 ≤ c) (h0 : f 0 < 18446744073709551616) (h1 : f 1 < 18446744073709551616) (hy : 2 ≤ y) (hy1 : y < 18446744073709551616) (hb : base ≤ w.heap.size) :
    Calls Tryz.prog 116 #[.slice none 0 0, .slice (some ⟨g, 0, none⟩) 2 c, .int .u64 y] w (DivWPost base ((f 0 + 18446744073709551616 * f 1) / y) ((f 0 + 18446744073709551616 * f 1) % y) w) := by
  have q1 : ((y : Int) == 0) = false := by simp; omega
  have q2 : ((y : Int) == 1) = false := by simp; omega
  obtain ⟨e1, e2⟩ := two_words (f 0) (f 1) y (by omega)
  have hxl := hB.lt
  have hq1 : f 1 / y < 18446744073709551616 := Nat.lt_of_le_of_lt (Nat.div_le_self _ _) h1
  have hr1 : f 1 % y < y := Nat.mod_lt _ (by omega)
  have hq0 : (f 1 % y * 18446744073709551616 + f 0) / y < 18446744073709551616 := by
    refine (Nat.div_lt_iff_lt_mul (by omega)).2 ?_
    have := Nat.mul_le_mul_right 18446744073709551616 (show f 1 % y + 1 ≤ y from hr1)
    rw [Nat.mul_comm 18446744073709551616 y]
    omega
  have a3 : ∀ w1, Blk w1 w.heap.size 6 (fun _ => 0) → w1.heap[g]? = w.heap[g]? → Calls Tryz.prog 154 #[.slice (some ⟨w.heap.size, 0, none⟩) 2 6, .int .u64 0, .slice (some ⟨g, 0, none⟩) 2 c, .int .u64 y] w1 fun e w' => e = .returned (.int .u64 (((f 1 % y * 18446744073709551616 + f 0) % y : Nat) : Int)) ∧
      ∃ k, w' = ((w1.setCell ⟨w.heap.size, 1, none⟩ (.int .u64 ((f 1 / y : Nat) : Int))).setCell ⟨w.heap.size, 0, none⟩ (.int .u64 (((f 1 % y * 18446744073709551616 + f 0) / y : Nat) : Int))).drewN k := fun w1 hZ hk =>
    divWVW_two w.heap.size g 6 c (f 0) (f 1) y w1 ⟨_, (hZ.cell (i := 0) (by decide)).1⟩ ⟨_, (hZ.cell (i := 1) (by decide)).1⟩ (hZ.cell (i := 0) (by decide)).2 (hZ.cell (i := 1) (by decide)).2 ((hB.keep hk).cell (i := 0) (by omega)).1 ((hB.keep hk).cell (i := 1) (by omega)).1 (by omega) h0 h1 (by omega) hy1
  rw [e1, e2]
  have A3 := Lib.hid a3
  have HQ := Lib.hid (And.intro hq0 hq1)
  clear a3 e1 e2 hB h0 h1 hy hy1 hq1 hr1 hq0
  generalize (f 1 % y * 18446744073709551616 + f 0) / y = Q0 at *
  generalize (f 1 % y * 18446744073709551616 + f 0) % y = R0 at *
  generalize f 1 / y = Q1 at *
  go_enter Tryz.func116, Tryz.ntmps116
  go_wp2_with fail
  refine (make_two none 0 0 (by decide) w).mono ?_
  rintro e w1 ⟨rfl, hw1⟩
  have hZ : Blk w1 w.heap.size 6 (fun _ => 0) := by rw [hw1]; exact blk_six w
  have hgr : w.grownBy w1 none := by rw [hw1]; exact World.grownBy_alloc w _ none
  clear hw1
  have a3 := A3.out w1 hZ (hgr.block g hxl (by simp))
  have HZ := Lib.hid hZ; have HGR := Lib.hid hgr; have HB := Lib.hid hb
  clear hZ hgr hxl hb A3
  generalize hG : w.heap.size = G at *
  have HG := Lib.hid hG; clear hG
  go_wp2_with fail
  refine a3.mono ?_
  clear a3
  rintro e w2 ⟨rfl, k, hw2⟩
  have hB2 : Blk w2 G 6 (upd (upd (fun _ => 0) 1 Q1) 0 Q0) := by rw [hw2]; exact (((HZ.out.set (by omega) Q1).set (by omega) Q0).drewN k)
  have HG2 := Lib.hid (show w1.grownBy w2 (some G) by rw [hw2]; exact grown_trans (grown_trans (setCell_grown _ G 1 _) (setCell_grown _ G 0 _)) (drewN_grown _ k _))
  clear hw2
  have a5 := norm_any G 2 6 _ _ hB2 (by omega) (by decide)
  have HB2 := Lib.hid hB2
  clear hB2
  go_wp2_with fail
  refine a5.mono ?_
  clear a5
  rintro e w4 ⟨rfl, rfl⟩
  go_wp2
  go_ret2
  refine DivWPost.mk (v := .slice (some ⟨G, 0, none⟩) (nw (upd (upd (fun _ => 0) 1 Q1) 0 Q0) 2) 6) rfl ?_ ?_ ?_
  · exact nv_two (base := base) HB.out HB2.out (by decide) (by decide) HQ.out.1 HQ.out.2
  · have h1 := HGR.out; have h2 := HG2.out; have h3 := HG.out
    exact ⟨h2.os.trans h1.os, h2.tape.trans h1.tape, h2.output.trans h1.output, Nat.le_trans h1.size h2.size, fun j hj _ => (h2.block j (Nat.lt_of_lt_of_le hj h1.size) (fun e => by have := Option.some.inj e; omega)).trans (h1.block j hj (by simp))⟩
  · exact .inr ⟨G, rfl, by rw [HG.out]; exact Nat.le_refl _⟩
theorem divW_wide (base X y : Nat) (xv : Value) (w : World) (hx : Nv w base xv X) (hX : X < 18446744073709551616 ∨ 2 ≤ y) (hy : 0 < y) (hy1 : y < 18446744073709551616) (hb : base ≤ w.heap.size) :
    Calls Tryz.prog 116 #[.slice none 0 0, xv, .int .u64 y] w (DivWPost base (X / y) (X % y) w) := by
  rcases hx with ⟨rfl, rfl⟩ | ⟨g, n, c, f, rfl, hg, hB, hc, hc1, hn, ⟨rfl, rfl⟩ | ⟨rfl, rfl, h3, h4⟩ | ⟨rfl, rfl, h3, h4, h5⟩⟩
  · rw [Nat.zero_div, Nat.zero_mod]; exact divW_nil base y hy w
  · rw [Nat.zero_div, Nat.zero_mod]; exact divW_zero base g c y hy w
  · exact divW_one base g c _ y w ⟨⟨f, hB, rfl⟩, by omega, h3, h4⟩ hy hy1 hb
  · exact divW_two base g c y f w hB (by omega) h3 h5 (by omega) hy1 hb
end Go.Proofs.YthkobjbemmllfaaGreatDoor
