/- math/big: bits.Div, reciprocalWord, divWVW over two words, divW of a number of two words: walked. -/
import Derived.Test.YtkndmjhiijgmbaaGreatDoorDivE
import Derived.Test.YtkndmjhiijgmbaaGreatDoorBigN
namespace Go.Proofs.YtkndmjhiijgmbaaGreatDoor
open Go.RowKit

theorem div64_any (hi lo y : Nat) (h : hi < y) (hl : lo < 18446744073709551616) (hy : y < 18446744073709551616) (w : World) :
    Calls Tryz.prog 10 #[.int .u64 hi, .int .u64 lo, .int .u64 y] w fun e w' => e = .returned (.tuple #[.int .u64 (((hi * 18446744073709551616 + lo) / y : Nat) : Int), .int .u64 (((hi * 18446744073709551616 + lo) % y : Nat) : Int)]) ∧ ∃ k, w' = w.drewN k := by
  rcases Nat.eq_zero_or_pos hi with rfl | h0
  · have a := div64_low lo y hl (by omega) hy w
    rw [Nat.zero_mul, Nat.zero_add]
    exact a
  · refine (div64_big hi lo y h0 h hl hy w).mono ?_
    rintro e w' ⟨rfl, rfl⟩
    exact ⟨rfl, 0, rfl⟩
theorem div_any (hi lo y : Nat) (h : hi < y) (hl : lo < 18446744073709551616) (hy : y < 18446744073709551616) (w : World) :
    Calls Tryz.prog 139 #[.int .u64 hi, .int .u64 lo, .int .u64 y] w fun e w' => e = .returned (.tuple #[.int .u64 (((hi * 18446744073709551616 + lo) / y : Nat) : Int), .int .u64 (((hi * 18446744073709551616 + lo) % y : Nat) : Int)]) ∧ ∃ k, w' = w.drewN k := by
  have a1 := div64_any hi lo y h hl hy w
  clear h hl hy
  obtain ⟨q, hq⟩ : ∃ q, q = (hi * 18446744073709551616 + lo) / y := ⟨_, rfl⟩
  obtain ⟨r, hr⟩ : ∃ r, r = (hi * 18446744073709551616 + lo) % y := ⟨_, rfl⟩
  rw [← hq, ← hr] at a1 ⊢
  clear hq hr
  go_enter Tryz.func139, Tryz.ntmps139
  go_wp2_with fail
  refine a1.mono ?_
  clear a1
  rintro e w' ⟨rfl, k, rfl⟩
  go_wp2
  go_ret2
  exact ⟨rfl, _, rfl⟩
theorem xor_max (y : Nat) (h : y < 18446744073709551616) : bits .xor .u64 IntKind.u64.max (y : Int) = ((18446744073709551615 - y : Nat) : Int) := by
  have h2 : (BitVec.ofInt 64 (y : Int)).toNat = y := by
    rw [BitVec.ofInt_natCast, BitVec.toNat_ofNat]; exact Nat.mod_eq_of_lt (by omega)
  have h1 : BitVec.ofInt 64 IntKind.u64.max = BitVec.allOnes 64 := by decide
  show IntKind.u64.wrap ((BitVec.ofInt 64 IntKind.u64.max ^^^ BitVec.ofInt 64 (y : Int)).toNat : Int) = _
  rw [h1, BitVec.allOnes_xor, BitVec.toNat_not, h2, IntKind.wrap_u64]
  omega
def RecPost (Y : Nat) (w : World) (e : Ending) (w' : World) : Prop := ∃ m : Nat, e = .returned (.int .u64 m) ∧ Recip Y m ∧ ∃ k, w' = w.drewN k
set_option maxRecDepth 100000 in
theorem recip_any (y s : Nat) (hN : Norm y s) (hsl : 64 - Lib.bitLen y = s) (w : World) : Calls Tryz.prog 140 #[.int .u64 y] w (RecPost (y * 2 ^ s) w) := by
  have hyY : y * 1 ≤ y * 2 ^ s := Nat.mul_le_mul_left y (Nat.two_pow_pos s)
  have a1 := nlz_any y (by have := hN.hi; omega) w
  rw [hsl] at a1
  have hs63 := hN.le
  obtain ⟨Y, hY⟩ : ∃ Y, Y = y * 2 ^ s := ⟨_, rfl⟩
  have hlo := hN.lo; have hhi := hN.hi
  have E1 : IntKind.u64.wrap ((y : Int) * 2 ^ s) = (Y : Int) := by rw [wshl, ← hY, Nat.mod_eq_of_lt (by omega)]
  rw [← hY] at hlo hhi ⊢
  have a2 := div_any (18446744073709551615 - Y) 18446744073709551615 Y (by omega) (by decide) hhi w
  have HR := Lib.hid (recip_of hlo hhi)
  obtain ⟨m, hm⟩ : ∃ m, m = ((18446744073709551615 - Y) * 18446744073709551616 + 18446744073709551615) / Y := ⟨_, rfl⟩
  rw [← hm] at a2 HR
  obtain ⟨r, hr⟩ : ∃ r, r = ((18446744073709551615 - Y) * 18446744073709551616 + 18446744073709551615) % Y := ⟨_, rfl⟩
  rw [← hr] at a2
  obtain ⟨X, hX⟩ : ∃ X, X = 18446744073709551615 - Y := ⟨_, rfl⟩
  rw [← hX] at a2
  have hx := xor_max Y hhi
  rw [← hX] at hx
  clear hyY hN hsl hY hlo hhi hm hr hX
  go_enter Tryz.func140, Tryz.ntmps140
  go_wp2_with fail
  refine a1.mono ?_
  clear a1
  rintro e w' ⟨rfl, rfl⟩
  go_wp2_with fail
  refine a2.mono ?_
  clear a2
  rintro e w' ⟨rfl, k, rfl⟩
  go_wp2
  go_ret
  exact ⟨m, rfl, HR.out, k, rfl⟩

set_option maxRecDepth 100000 in
set_option maxHeartbeats 2000000 in
theorem divWVW_two (gz gx cz cx f0 f1 y : Nat) (w : World) (h0 : ∃ u, w.cell? ⟨gz, 0, none⟩ = some u) (h1 : ∃ u, w.cell? ⟨gz, 1, none⟩ = some u) (hf0 : w.frozen? ⟨gz, 0, none⟩ = false) (hf1 : w.frozen? ⟨gz, 1, none⟩ = false)
    (hx0 : w.cell? ⟨gx, 0, none⟩ = some (.int .u64 f0)) (hx1 : w.cell? ⟨gx, 1, none⟩ = some (.int .u64 f1)) (hne : gz ≠ gx) (hl0 : f0 < 18446744073709551616) (hl1 : f1 < 18446744073709551616) (hy : 0 < y) (hy1 : y < 18446744073709551616) :
    Calls Tryz.prog 118 #[.slice (some ⟨gz, 0, none⟩) 2 cz, .int .u64 0, .slice (some ⟨gx, 0, none⟩) 2 cx, .int .u64 y] w fun e w' => e = .returned (.int .u64 (((f1 % y * 18446744073709551616 + f0) % y : Nat) : Int)) ∧
      ∃ k, w' = ((w.setCell ⟨gz, 1, none⟩ (.int .u64 ((f1 / y : Nat) : Int))).setCell ⟨gz, 0, none⟩ (.int .u64 (((f1 % y * 18446744073709551616 + f0) / y : Nat) : Int))).drewN k := by
  obtain ⟨u0, h0⟩ := h0
  obtain ⟨u1, h1⟩ := h1
  have hN := norm_of hy hy1
  have a1 := recip_any y _ hN rfl w
  have a2 : ∀ m, Recip (y * 2 ^ (64 - Lib.bitLen y)) m → ∀ w, Calls Tryz.prog 141 #[.int .u64 0, .int .u64 f1, .int .u64 y, .int .u64 m] w fun e w' => e = .returned (.tuple #[.int .u64 ((f1 / y : Nat) : Int), .int .u64 ((f1 % y : Nat) : Int)]) ∧ w = w' := fun m hm w => by
    have := divWW_any 0 f1 y m _ hN rfl hm hy hl1 w
    rw [Nat.zero_mul, Nat.zero_add] at this
    exact this
  have a3 : ∀ m, Recip (y * 2 ^ (64 - Lib.bitLen y)) m → ∀ w, Calls Tryz.prog 141 #[.int .u64 ((f1 % y : Nat) : Int), .int .u64 f0, .int .u64 y, .int .u64 m] w fun e w' => e = .returned (.tuple #[.int .u64 (((f1 % y * 18446744073709551616 + f0) / y : Nat) : Int), .int .u64 (((f1 % y * 18446744073709551616 + f0) % y : Nat) : Int)]) ∧ w = w' := fun m hm w =>
    divWW_any (f1 % y) f0 y m _ hN rfl hm (Nat.mod_lt _ hy) hl0 w
  obtain ⟨q0, hq0⟩ : ∃ q, q = (f1 % y * 18446744073709551616 + f0) / y := ⟨_, rfl⟩
  obtain ⟨r0, hr0⟩ : ∃ q, q = (f1 % y * 18446744073709551616 + f0) % y := ⟨_, rfl⟩
  obtain ⟨q1, hq1⟩ : ∃ q, q = f1 / y := ⟨_, rfl⟩
  obtain ⟨r1, hr1⟩ : ∃ q, q = f1 % y := ⟨_, rfl⟩
  rw [← hq0, ← hr0] at a3 ⊢
  rw [← hr1] at a3 a2
  rw [← hq1] at a2 ⊢
  have A2 := Lib.hid a2; have A3 := Lib.hid a3
  clear hN hl0 hl1 hy hy1 a2 a3 hq0 hr0 hq1 hr1
  generalize y * 2 ^ (64 - Lib.bitLen y) = Y at *
  go_enter Tryz.func118, Tryz.ntmps118
  go_wp2_with fail
  refine a1.mono ?_
  clear a1
  rintro e w' ⟨m, rfl, hm, k, rfl⟩
  have A2' := A2.out m hm
  have A3' := A3.out m hm
  clear A2 A3 hm
  go_wp2_with fail
  refine wp_loop_rounds 3 ?_
  rw [rounds_succ]
  go_wp2_with fail
  refine (A2' _).mono ?_
  rintro e w' ⟨rfl, rfl⟩
  go_wp2_with fail
  rw [rounds_succ]
  have k1 : ((w.setCell ⟨gz, 1, none⟩ (.int .u64 (q1 : Int))).drewN k).cell? ⟨gx, 0, none⟩ = some (.int .u64 f0) := by
    show (w.setCell ⟨gz, 1, none⟩ (.int .u64 (q1 : Int))).cell? ⟨gx, 0, none⟩ = _
    rw [World.cell?_setCell_other (h := fun e => hne (congrArg Addr.block e))]; exact hx0
  go_wp2_with fail
  refine (A3' _).mono ?_
  rintro e w' ⟨rfl, rfl⟩
  go_wp2_with fail
  rw [rounds_succ]
  go_wp2
  go_ret
  exact ⟨rfl, k, rfl⟩
end Go.Proofs.YtkndmjhiijgmbaaGreatDoor
