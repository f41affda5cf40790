/- math/bits.Div64 whole: walked. -/
import Derived.Lib.BitFns
import Derived.Test.YthkobjbemmllfaaGreatDoorBig1
import Derived.Test.YthkobjbemmllfaaGreatDoorShelf
import Derived.Laws.Bits64b
import Derived.Deep.LoopGhost
import Derived.Deep.DeepCutAuto
import Derived.Deep.CutBlock
namespace Go.Proofs.YthkobjbemmllfaaGreatDoor
theorem bitLenAux_spec : ∀ f x, x < 2 ^ f → x < 2 ^ Lib.bitLenAux f x ∧ (x ≠ 0 → 2 ^ Lib.bitLenAux f x ≤ 2 * x)
  | 0, x, h => by
    have : x = 0 := by simpa using h
    subst this
    simp [Lib.bitLenAux]
  | f + 1, x, h => by
    unfold Lib.bitLenAux
    by_cases h0 : x = 0
    · simp [h0]
    · rw [if_neg h0]
      obtain ⟨a, b⟩ := bitLenAux_spec f (x / 2) (by rw [Nat.pow_succ] at h; omega)
      rw [Nat.add_comm, Nat.pow_succ]
      refine ⟨by omega, fun _ => ?_⟩
      by_cases h1 : x / 2 = 0
      · have : x = 1 := by omega
        subst this
        have e : Lib.bitLenAux f (1 / 2) = 0 := by
          rw [show 1 / 2 = 0 from rfl]; cases f <;> simp [Lib.bitLenAux]
        rw [e]; decide
      · have := b h1; omega
/-- y shifted up by s has its first bit set. -/
structure Norm (y s : Nat) : Prop where
  le : s ≤ 63
  lo : 9223372036854775808 ≤ y * 2 ^ s
  hi : y * 2 ^ s < 18446744073709551616
theorem bitLen_pos {y : Nat} (h0 : 0 < y) (h : y < 18446744073709551616) : 1 ≤ Lib.bitLen y ∧ Lib.bitLen y ≤ 64 := by
  refine ⟨?_, Lib.bitLen_le y 64 (Nat.le_refl _) h⟩
  have := (bitLenAux_spec 64 y h).1
  rcases Nat.eq_zero_or_pos (Lib.bitLen y) with e | e
  · have e' : Lib.bitLenAux 64 y = 0 := e
    rw [e'] at this
    omega
  · exact e
theorem norm_of {y : Nat} (h0 : 0 < y) (h : y < 18446744073709551616) : Norm y (64 - Lib.bitLen y) := by
  obtain ⟨l1, l2⟩ := bitLen_pos h0 h
  obtain ⟨a, b⟩ := bitLenAux_spec 64 y h
  have b := b (by omega)
  change y < 2 ^ Lib.bitLen y at a
  change 2 ^ Lib.bitLen y ≤ 2 * y at b
  have e : 2 ^ Lib.bitLen y * 2 ^ (64 - Lib.bitLen y) = 18446744073709551616 := by
    rw [← Nat.pow_add, show Lib.bitLen y + (64 - Lib.bitLen y) = 64 by omega]
  have hp : 0 < 2 ^ (64 - Lib.bitLen y) := Nat.two_pow_pos _
  refine ⟨by omega, ?_, ?_⟩
  · have := Nat.mul_le_mul_right (2 ^ (64 - Lib.bitLen y)) b
    rw [e, Nat.mul_assoc] at this
    omega
  · have := Nat.mul_lt_mul_of_pos_right a hp
    rw [e] at this
    exact this
theorem Norm.same {y : Nat} (h : Norm y 0) (s : Nat) (hs : Norm y s) : s = 0 := by
  rcases Nat.eq_zero_or_pos s with e | e
  · exact e
  · exfalso
    obtain ⟨k, rfl⟩ : ∃ k, s = k + 1 := ⟨s - 1, by omega⟩
    have h1 := h.lo; have h2 := hs.hi
    rw [Nat.pow_succ] at h2
    rw [Nat.pow_zero, Nat.mul_one] at h1
    have h3 : y * 1 ≤ y * 2 ^ k := Nat.mul_le_mul_left y (Nat.two_pow_pos k)
    rw [← Nat.mul_assoc] at h2
    omega
/-- The dividend shifted up: the upper word. -/
def upW (hi lo s : Nat) : Nat := hi * 2 ^ s + lo / 2 ^ (64 - s)
theorem up_lo {lo s : Nat} (hs : s ≤ 63) : lo / 2 ^ (64 - s) = lo * 2 ^ s / 18446744073709551616 := by
  rw [show (18446744073709551616 : Nat) = 2 ^ (64 - s) * 2 ^ s by rw [← Nat.pow_add, show 64 - s + s = 64 by omega], Nat.mul_div_mul_right _ _ (Nat.two_pow_pos s)]
theorem up_or {hi lo s : Nat} (hs : s ≤ 63) (hl : lo < 18446744073709551616) : hi * 2 ^ s ||| lo / 2 ^ (64 - s) = upW hi lo s := by
  have h : lo / 2 ^ (64 - s) < 2 ^ s := by
    refine (Nat.div_lt_iff_lt_mul (Nat.two_pow_pos _)).2 ?_
    rw [← Nat.pow_add, show s + (64 - s) = 64 by omega]
    exact hl
  unfold upW
  rw [Nat.mul_comm hi, Nat.two_pow_add_eq_or_of_lt h]
theorem up_eq {hi lo s : Nat} (hs : s ≤ 63) : upW hi lo s * 18446744073709551616 + lo * 2 ^ s % 18446744073709551616 = (hi * 18446744073709551616 + lo) * 2 ^ s := by
  unfold upW
  rw [up_lo hs]
  have h := Nat.div_add_mod (lo * 2 ^ s) 18446744073709551616
  rw [Nat.add_mul, Nat.add_mul, Nat.mul_right_comm]
  omega
theorem up_lt {hi lo y s : Nat} (hs : s ≤ 63) (hy : hi < y) (hl : lo < 18446744073709551616) : upW hi lo s < y * 2 ^ s := by
  have h := up_eq (hi := hi) (lo := lo) hs
  have h1 : (hi * 18446744073709551616 + lo) * 2 ^ s < y * 18446744073709551616 * 2 ^ s := by
    refine Nat.mul_lt_mul_of_pos_right ?_ (Nat.two_pow_pos s)
    have := Nat.mul_le_mul_right 18446744073709551616 (show hi + 1 ≤ y from hy)
    omega
  rw [Nat.mul_right_comm y] at h1
  omega
theorem up_div (hi lo y s : Nat) (hs : s ≤ 63) : (upW hi lo s * 18446744073709551616 + lo * 2 ^ s % 18446744073709551616) / (y * 2 ^ s) = (hi * 18446744073709551616 + lo) / y ∧
    (upW hi lo s * 18446744073709551616 + lo * 2 ^ s % 18446744073709551616) % (y * 2 ^ s) / 2 ^ s = (hi * 18446744073709551616 + lo) % y := by
  rw [up_eq hs, Nat.mul_div_mul_right _ _ (Nat.two_pow_pos s), Nat.mul_mod_mul_right, Nat.mul_div_cancel _ (Nat.two_pow_pos s)]
  exact ⟨rfl, rfl⟩
end Go.Proofs.YthkobjbemmllfaaGreatDoor
namespace Go.Proofs.YthkobjbemmllfaaGreatDoor
section
variable {u d y yn1 yn0 q r B : Nat}
/-- One digit of the quotient is tried from above. -/
structure Trial (u d y yn1 yn0 q r B : Nat) : Prop where
  hy : y = yn1 * B + yn0
  y0 : yn0 < B
  hu : u < y
  hd : d < B
  hr : q * yn1 + r = u
  hq : (u * B + d) / y ≤ q
theorem Trial.start (hy : y = yn1 * B + yn0) (h0 : yn0 < B) (hu : u < y) (hd : d < B) (hp : 0 < yn1) : Trial u d y yn1 yn0 (u / yn1) (u % yn1) B := by
  refine ⟨hy, h0, hu, hd, by rw [Nat.mul_comm]; exact Nat.div_add_mod u yn1, ?_⟩
  have hB : 0 < B := by omega
  refine (Nat.le_div_iff_mul_le hp).2 ?_
  have h1 : (u * B + d) / y * y ≤ u * B + d := Nat.div_mul_le_self _ _
  generalize (u * B + d) / y = Q at *
  have h2 : Q * yn1 * B ≤ Q * y := by rw [hy, Nat.mul_add, ← Nat.mul_assoc]; omega
  have h3 : Q * yn1 * B < (u + 1) * B := by rw [Nat.add_mul, Nat.one_mul]; omega
  have := Nat.lt_of_mul_lt_mul_right h3
  omega
theorem Trial.mul (h : Trial u d y yn1 yn0 q r B) : q * y = (u - r) * B + q * yn0 := by
  have hr := h.hr
  have e : u - r = q * yn1 := by omega
  rw [e, h.hy, Nat.mul_add, Nat.mul_assoc]
theorem Trial.stop (h : Trial u d y yn1 yn0 q r B) (hs : q * yn0 ≤ B * r + d) : (u * B + d) / y = q := by
  refine Nat.le_antisymm h.hq ((Nat.le_div_iff_mul_le (by have := h.hu; omega)).2 ?_)
  have hm := h.mul
  have hr := h.hr
  have e : (u - r) * B + B * r = u * B := by rw [Nat.mul_comm B r, ← Nat.add_mul]; congr 1; omega
  omega
theorem Trial.wide (h : Trial u d y yn1 yn0 q r B) (hr : B ≤ r) : q < B ∧ q * yn0 ≤ B * r + d := by
  have h1 := h.hr; have h2 := h.hu; have h3 := h.hy; have h4 := h.y0
  have hq : q * yn1 < B * yn1 := by rw [Nat.mul_comm B]; omega
  have hq : q < B := Nat.lt_of_mul_lt_mul_right hq
  have h5 : q * yn0 ≤ B * B := Nat.mul_le_mul (by omega) (by omega)
  have h6 : B * B ≤ B * r := Nat.mul_le_mul_left _ hr
  exact ⟨hq, by omega⟩
theorem Trial.lt (h : Trial u d y yn1 yn0 q r B) : (u * B + d) / y < B := by
  have h1 := h.hu; have h2 := h.hd
  refine (Nat.div_lt_iff_lt_mul (by omega)).2 ?_
  have : (u + 1) * B ≤ y * B := Nat.mul_le_mul_right _ h1
  rw [Nat.add_mul, Nat.one_mul] at this
  rw [Nat.mul_comm B y]
  omega
theorem Trial.step (h : Trial u d y yn1 yn0 q r B) (hs : B ≤ q ∨ B * r + d < q * yn0) : 0 < q ∧ Trial u d y yn1 yn0 (q - 1) (r + yn1) B := by
  have hlt : (u * B + d) / y < q := by
    rcases hs with hs | hs
    · have := h.lt; omega
    · refine (Nat.div_lt_iff_lt_mul (by have := h.hu; omega)).2 ?_
      have hm := h.mul
      have hr := h.hr
      have e : (u - r) * B + B * r = u * B := by rw [Nat.mul_comm B r, ← Nat.add_mul]; congr 1; omega
      omega
  have h0 : 0 < q := Nat.lt_of_le_of_lt (Nat.zero_le _) hlt
  refine ⟨h0, h.hy, h.y0, h.hu, h.hd, ?_, Nat.le_sub_one_of_lt hlt⟩
  have hr := h.hr
  obtain ⟨k, rfl⟩ : ∃ k, q = k + 1 := ⟨q - 1, by omega⟩
  rw [Nat.add_mul, Nat.one_mul] at hr
  rw [Nat.add_sub_cancel]
  omega
/-- What is left behind a digit. -/
theorem Trial.rest (h : Trial u d y yn1 yn0 q r B) (hq : (u * B + d) / y = q) : q * y ≤ u * B + d ∧ u * B + d - q * y = (u * B + d) % y ∧ (u * B + d) % y < y := by
  have := Nat.div_add_mod (u * B + d) y
  rw [hq, Nat.mul_comm] at this
  have h1 := Nat.mod_lt (u * B + d) (show 0 < y by have := h.hu; omega)
  exact ⟨by omega, by omega, h1⟩
/-- Two digits, one behind the other. -/
theorem two_digits (u d0 d1 y B : Nat) (h0 : 0 < y) : ((u * B + d1) * B + d0) / y = (u * B + d1) / y * B + ((u * B + d1) % y * B + d0) / y ∧ ((u * B + d1) * B + d0) % y = ((u * B + d1) % y * B + d0) % y := by
  have h := Nat.div_add_mod (u * B + d1) y
  generalize (u * B + d1) / y = Q at *
  generalize (u * B + d1) % y = r at *
  rw [← h]
  have e : (y * Q + r) * B + d0 = y * (Q * B) + (r * B + d0) := by rw [Nat.add_mul, Nat.mul_assoc, Nat.add_assoc]
  rw [e]
  exact ⟨Nat.mul_add_div h0 _ _, Nat.mul_add_mod _ _ _⟩
end
end Go.Proofs.YthkobjbemmllfaaGreatDoor
namespace Go.Proofs.YthkobjbemmllfaaGreatDoor
open Go.RowKit

theorem lead64 (y : Nat) (hy : y < 18446744073709551616) (w : World) : Calls Tryz.prog 212 #[.int .u64 y] w fun e w' => e = .returned (.int .i64 ((64 - Lib.bitLen y : Nat) : Int)) ∧ w = w' := by
  refine (Tryz.bits_LeadingZeros64 y w (by omega) (by omega)).mono ?_
  rintro e w' ⟨rfl, rfl⟩
  have := Lib.bitLen_le y 64 (Nat.le_refl _) hy
  refine ⟨?_, rfl⟩
  rw [show ((y : Int)).toNat = y from rfl]
  congr 2
  omega
theorem wmul (a b : Nat) : IntKind.u64.wrap ((a : Int) * (b : Int)) = ((a * b % 18446744073709551616 : Nat) : Int) := by
  rw [← Int.natCast_mul, IntKind.wrap_u64]
  generalize a * b = p
  omega
theorem wadd (a b : Nat) : IntKind.u64.wrap ((a : Int) + (b : Int)) = (((a + b) % 18446744073709551616 : Nat) : Int) := by
  rw [IntKind.wrap_u64]; omega
theorem wsame (a : Nat) (h : a < 18446744073709551616) : IntKind.u64.wrap (a : Int) = (a : Int) := by
  rw [IntKind.wrap_u64]; omega
theorem wshl (a s : Nat) : IntKind.u64.wrap ((a : Int) * 2 ^ s) = ((a * 2 ^ s % 18446744073709551616 : Nat) : Int) := by
  rw [show ((a : Int) * 2 ^ s) = ((a * 2 ^ s : Nat) : Int) by rw [Int.natCast_mul, Int.natCast_pow]; rfl, IntKind.wrap_u64]
  generalize a * 2 ^ s = p
  omega
theorem wshr (a s : Nat) : (a : Int) / 2 ^ s = ((a / 2 ^ s : Nat) : Int) := by
  rw [Int.natCast_ediv, Int.natCast_pow]; rfl
theorem half_and (a : Nat) (h : a < 18446744073709551616) : bits .and .u64 (a : Int) 4294967295 = ((a % 4294967296 : Nat) : Int) := by
  have h1 := bits_and_u64_nat a 4294967295 h (by decide)
  rw [show a &&& 4294967295 = a % 4294967296 from Nat.and_two_pow_sub_one_eq_mod a 32] at h1
  exact h1
/-- What is left of a digit, however the words wrap. -/
theorem wrest (u d p r : Nat) (h : p ≤ u * 4294967296 + d) (e : u * 4294967296 + d - p = r) (hr : r < 18446744073709551616) :
    IntKind.u64.wrap ((((u * 4294967296 % 18446744073709551616 + d) % 18446744073709551616 : Nat) : Int) - ((p % 18446744073709551616 : Nat) : Int)) = (r : Int) := by
  rw [IntKind.wrap_u64]; omega

theorem digit_rest (u d q y r : Nat) (h : q * y ≤ u * 4294967296 + d) (e : u * 4294967296 + d - q * y = r) (hr : r < 18446744073709551616) :
    ∃ x1 x2 x3 : Nat, IntKind.u64.wrap ((u : Int) * 4294967296) = (x1 : Int) ∧ IntKind.u64.wrap ((x1 : Int) + (d : Int)) = (x2 : Int) ∧ IntKind.u64.wrap ((q : Int) * (y : Int)) = (x3 : Int) ∧ IntKind.u64.wrap ((x2 : Int) - (x3 : Int)) = (r : Int) :=
  ⟨_, _, _, wmul u 4294967296, wadd _ d, wmul q y, wrest u d (q * y) r h e hr⟩
/-- A trial that begins: the numbers of the walk. -/
theorem trial_first {u d Y A C : Nat} (h1 : Y = A * 4294967296 + C) (h2 : C < 4294967296) (h3 : u < Y) (h4 : d < 4294967296) (h5 : 2147483648 ≤ A) (h6 : A < 4294967296) :
    Trial u d Y A C (u / A) (u % A) 4294967296 ∧ (u : Int).tdiv (A : Int) = ((u / A : Nat) : Int) ∧ IntKind.u64.wrap ((u / A : Nat) : Int) = ((u / A : Nat) : Int) ∧ IntKind.u64.wrap (((u / A : Nat) : Int) * (A : Int)) = ((u / A * A : Nat) : Int) ∧
      IntKind.u64.wrap ((u : Int) - ((u / A * A : Nat) : Int)) = ((u % A : Nat) : Int) ∧ u % A < 4294967296 := by
  have hu : u < 18446744073709551616 := by omega
  have hdm := Nat.div_add_mod u A
  rw [Nat.mul_comm] at hdm
  have hq : u / A ≤ u := Nat.div_le_self u A
  have hr : u % A < A := Nat.mod_lt _ (by omega)
  refine ⟨Trial.start h1 h2 h3 h4 (by omega), Int.ofNat_tdiv u A, wsame _ (by omega), ?_, ?_, by omega⟩
  · rw [wmul]
    generalize u / A * A = p at *
    omega
  · rw [IntKind.wrap_u64]
    generalize u / A * A = p at *
    omega

/-- What the test of a trial reckons. -/
structure TestE (d C q r p m k : Nat) : Prop where
  e1 : IntKind.u64.wrap ((q : Int) * (C : Int)) = (p : Int)
  e2 : IntKind.u64.wrap (4294967296 * (r : Int)) = (m : Int)
  e3 : IntKind.u64.wrap ((m : Int) + (d : Int)) = (k : Int)
theorem testE {d C q r : Nat} (hq : q < 4294967296) (hC : C < 4294967296) (hr : r < 4294967296) (hd : d < 4294967296) : TestE d C q r (q * C) (4294967296 * r) (4294967296 * r + d) := by
  have hp : q * C ≤ 4294967295 * 4294967295 := Nat.mul_le_mul (by omega) (by omega)
  refine ⟨?_, ?_, ?_⟩
  · rw [wmul]; generalize q * C = p at *; omega
  · rw [show (4294967296 * (r : Int)) = ((4294967296 * r : Nat) : Int) by omega]; exact wsame _ (by omega)
  · rw [wadd]; omega
theorem q_dec {q : Nat} (h0 : 0 < q) (hq : q < 18446744073709551616) : IntKind.u64.wrap ((q : Int) - 1) = ((q - 1 : Nat) : Int) := by
  rw [IntKind.wrap_u64]; omega
theorem r_up {r A : Nat} (hr : r < 4294967296) (hA : A < 4294967296) : IntKind.u64.wrap ((r : Int) + (A : Int)) = ((r + A : Nat) : Int) := by
  rw [IntKind.wrap_u64]; omega
theorem q_lt {u d Y A C q r : Nat} (h : Trial u d Y A C q r 4294967296) (hu : u < 18446744073709551616) (hA : 2147483648 ≤ A) : q < 18446744073709551616 := by
  have := h.hr
  have h1 : q * 1 ≤ q * A := Nat.mul_le_mul_left q (by omega)
  omega

set_option maxRecDepth 100000 in
set_option maxHeartbeats 4000000 in
theorem div64_big (hi lo y : Nat) (h0 : 0 < hi) (h : hi < y) (hl : lo < 18446744073709551616) (hy : y < 18446744073709551616) (w : World) :
    Calls Tryz.prog 199 #[.int .u64 hi, .int .u64 lo, .int .u64 y] w fun e w' => e = .returned (.tuple #[.int .u64 (((hi * 18446744073709551616 + lo) / y : Nat) : Int), .int .u64 (((hi * 18446744073709551616 + lo) % y : Nat) : Int)]) ∧ w = w' := by
  have a1 := lead64 y hy w
  have hN := norm_of (y := y) (by omega) hy
  obtain ⟨s, hs⟩ : ∃ s, s = 64 - Lib.bitLen y := ⟨_, rfl⟩
  rw [← hs] at a1 hN
  have hs63 := hN.le
  have d1 : ((y : Int) == 0) = false := by simp; omega
  have d2 : decide (y ≤ hi) = false := decide_eq_false (by omega)
  have d3 : ((hi : Int) == 0) = false := by simp; omega
  -- the numbers
  obtain ⟨Y, hY⟩ : ∃ Y, Y = y * 2 ^ s := ⟨_, rfl⟩
  have hYl : 9223372036854775808 ≤ Y := by rw [hY]; exact hN.lo
  have hYh : Y < 18446744073709551616 := by rw [hY]; exact hN.hi
  have E1 : IntKind.u64.wrap ((y : Int) * 2 ^ s) = (Y : Int) := by rw [wshl, ← hY, Nat.mod_eq_of_lt hYh]
  obtain ⟨A, hA⟩ : ∃ A, A = Y / 4294967296 := ⟨_, rfl⟩
  obtain ⟨C, hC⟩ : ∃ C, C = Y % 4294967296 := ⟨_, rfl⟩
  have E2 : (Y : Int) / 4294967296 = (A : Int) := by omega
  have E3 : bits .and .u64 (Y : Int) 4294967295 = (C : Int) := by rw [half_and Y hYh, ← hC]
  have hHi : hi * 2 ^ s < 18446744073709551616 := by
    have := Nat.mul_le_mul_right (2 ^ s) (show hi ≤ y by omega)
    omega
  obtain ⟨U, hU⟩ : ∃ U, U = upW hi lo s := ⟨_, rfl⟩
  have hUY : U < Y := by rw [hU, hY]; exact up_lt hs63 h hl
  have E4 : IntKind.u64.wrap ((hi : Int) * 2 ^ s) = ((hi * 2 ^ s : Nat) : Int) := by rw [wshl, Nat.mod_eq_of_lt hHi]
  have E5 : (lo : Int) / 2 ^ (64 - s) = ((lo / 2 ^ (64 - s) : Nat) : Int) := wshr _ _
  have E6 : bits .or .u64 ((hi * 2 ^ s : Nat) : Int) ((lo / 2 ^ (64 - s) : Nat) : Int) = (U : Int) := by
    rw [bits_or_u64_nat _ _ hHi (Nat.lt_of_le_of_lt (Nat.div_le_self _ _) hl), up_or hs63 hl, ← hU]
  obtain ⟨V, hV⟩ : ∃ V, V = lo * 2 ^ s % 18446744073709551616 := ⟨_, rfl⟩
  have hVl : V < 18446744073709551616 := by rw [hV]; exact Nat.mod_lt _ (by decide)
  have E7 : IntKind.u64.wrap ((lo : Int) * 2 ^ s) = (V : Int) := by rw [wshl, ← hV]
  obtain ⟨V1, hV1⟩ : ∃ V1, V1 = V / 4294967296 := ⟨_, rfl⟩
  obtain ⟨V0, hV0⟩ : ∃ V0, V0 = V % 4294967296 := ⟨_, rfl⟩
  have E8 : (V : Int) / 4294967296 = (V1 : Int) := by omega
  have E9 : bits .and .u64 (V : Int) 4294967295 = (V0 : Int) := by rw [half_and V hVl, ← hV0]
  have hA1 : 2147483648 ≤ A := by omega
  have hA2 : A < 4294967296 := by omega
  have hC2 : C < 4294967296 := by omega
  have hYAC : Y = A * 4294967296 + C := by omega
  have hV12 : V1 < 4294967296 := by omega
  have hV02 : V0 < 4294967296 := by omega
  have q0 : ((A : Int) == 0) = false := by simp; omega
  have q0n : ¬ (A : Int) = 0 := by omega
  have q0m : ¬ A = 0 := by omega
  obtain ⟨T1, F1, F2, F3, F4, F5⟩ := trial_first hYAC hC2 hUY hV12 hA1 hA2
  have HT1 := Lib.hid T1
  have HRes := Lib.hid (up_div hi lo y s hs63)
  rw [← hU, ← hV, ← hY] at HRes
  have HV := Lib.hid (show V = V1 * 4294967296 + V0 by omega)
  have HB := Lib.hid (And.intro hYl (And.intro hYh (And.intro hUY (And.intro hA1 (And.intro hA2 (And.intro hC2 (And.intro hYAC (And.intro hV12 hV02))))))))
  have HR5 := Lib.hid F5
  clear hs hN h0 h hl hy hY hA hC hHi hU hV hVl hV1 hV0 T1 hYl hYh hUY hA1 hA2 hC2 hYAC hV12 hV02 F5
  generalize hi * 2 ^ s = HI at *
  generalize lo / 2 ^ (64 - s) = LO at *
  generalize U / A * A = P0 at *
  generalize U / A = Qa at *
  generalize U % A = Ra at *
  go_enter Tryz.func199, Tryz.ntmps199
  go_wp2_with fail
  refine a1.mono ?_
  clear a1
  rintro e w' ⟨rfl, rfl⟩
  go_upto_block 0 with fail
  clear E1 E2 E3 E4 E5 E6 E7 E8 E9 F1 F2 F3 F4
  go_cut [15, 16] from 67 to 85 (fun vq _ wx => vq = .int .u64 (((U * 4294967296 + V1) / Y : Nat) : Int) ∧ w = wx)
  case first =>
    go_wp2_with fail
    go_loop [15, 16] (fun vq vr => ∃ q r : Nat, vq = .int .u64 q ∧ vr = .int .u64 r ∧ r < 4294967296 ∧ Hid (Trial U V1 Y A C q r 4294967296)) (fun vq _ => (intOf vq).toNat)
    case atStart => exact ⟨_, _, rfl, rfl, HR5.out, HT1⟩
    case round =>
      obtain ⟨q, r, rfl, rfl, hr, hT⟩ := hrel
      by_cases hq : 4294967296 ≤ q
      · have t1 : decide (4294967296 ≤ (q : Int)) = true := decide_eq_true (by omega)
        obtain ⟨hq0, hT2⟩ := hT.out.step (.inl hq)
        have e4 := q_dec hq0 (q_lt hT.out (by obtain ⟨b1, b2, b3, _⟩ := HB.out; have := b3; omega) (by obtain ⟨_, _, _, b4, _⟩ := HB.out; exact b4))
        have e5 := r_up hr (show A < 4294967296 by obtain ⟨_, _, _, _, b5, _⟩ := HB.out; exact b5)
        have hlt : q - 1 < q := by omega
        have HT2 := Lib.hid hT2
        clear hT hT2
        generalize q - 1 = q2 at *
        generalize r + A = r2 at *
        by_cases hb : 4294967296 ≤ r2
        · have t2 : decide (4294967296 ≤ (r2 : Int)) = true := decide_eq_true (by omega)
          have hE := HT2.out.wide hb
          have HE := Lib.hid (HT2.out.stop hE.2)
          clear hE hb hlt hq0 hq hr
          go_wp2
          go_meet
          exact ⟨by rw [HE.out], rfl⟩
        · have t2 : decide (4294967296 ≤ (r2 : Int)) = false := decide_eq_false (by omega)
          have HLT := Lib.hid hlt
          have HBL := Lib.hid (show r2 < 4294967296 by omega)
          clear hb hlt hq0 hq hr
          go_wp2
          go_round
          case rel => exact ⟨q2, r2, rfl, rfl, HBL.out, HT2⟩
          case measure => simp [intOf]; exact HLT.out
      · have t1 : decide (4294967296 ≤ (q : Int)) = false := decide_eq_false (by omega)
        obtain ⟨f1, f2, f3⟩ := testE (d := V1) (C := C) (show q < 4294967296 by omega) (by obtain ⟨_, _, _, _, _, b6, _⟩ := HB.out; exact b6) hr (by obtain ⟨_, _, _, _, _, _, _, b8, b9⟩ := HB.out; exact b8)
        by_cases hk : 4294967296 * r + V1 < q * C
        · have t3 : decide (4294967296 * r + V1 < q * C) = true := decide_eq_true hk
          obtain ⟨hq0, hT2⟩ := hT.out.step (.inr hk)
          have e4 := q_dec hq0 (q_lt hT.out (by obtain ⟨b1, b2, b3, _⟩ := HB.out; have := b3; omega) (by obtain ⟨_, _, _, b4, _⟩ := HB.out; exact b4))
          have e5 := r_up hr (show A < 4294967296 by obtain ⟨_, _, _, _, b5, _⟩ := HB.out; exact b5)
          have hlt : q - 1 < q := by omega
          have HT2 := Lib.hid hT2
          clear hT hT2
          generalize hkk : 4294967296 * r + V1 = k at *
          generalize hpp : q * C = p at *
          generalize hmm : 4294967296 * r = m at *
          clear hkk hpp hmm
          generalize q - 1 = q2 at *
          generalize r + A = r2 at *
          by_cases hb : 4294967296 ≤ r2
          · have t2 : decide (4294967296 ≤ (r2 : Int)) = true := decide_eq_true (by omega)
            have hE := HT2.out.wide hb
            have HE := Lib.hid (HT2.out.stop hE.2)
            clear hE hb hlt hq0 hq hr hk
            go_wp2
            go_meet
            exact ⟨by rw [HE.out], rfl⟩
          · have t2 : decide (4294967296 ≤ (r2 : Int)) = false := decide_eq_false (by omega)
            have HLT := Lib.hid hlt
            have HBL := Lib.hid (show r2 < 4294967296 by omega)
            clear hb hlt hq0 hq hr hk
            go_wp2
            go_round
            case rel => exact ⟨q2, r2, rfl, rfl, HBL.out, HT2⟩
            case measure => simp [intOf]; exact HLT.out
        · have t3 : decide (4294967296 * r + V1 < q * C) = false := decide_eq_false hk
          have HE := Lib.hid (hT.out.stop (by omega))
          clear hT
          generalize hkk : 4294967296 * r + V1 = k at *
          generalize hpp : q * C = p at *
          generalize hmm : 4294967296 * r = m at *
          clear hkk hpp hmm
          clear hk hq hr
          go_wp2
          go_meet
          exact ⟨by rw [HE.out], rfl⟩
  case rest =>
    obtain ⟨rfl, rfl⟩ := hcut
    have hQL := HT1.out.lt
    have hdm := Nat.div_add_mod (U * 4294967296 + V1) Y
    have hDY := Nat.mod_lt (U * 4294967296 + V1) (show 0 < Y by obtain ⟨b1, _⟩ := HB.out; omega)
    have HTD := Lib.hid (two_digits U V0 V1 Y 4294967296 (show 0 < Y by obtain ⟨b1, _⟩ := HB.out; omega))
    obtain ⟨Q1, hQ1⟩ : ∃ Q1, Q1 = (U * 4294967296 + V1) / Y := ⟨_, rfl⟩
    obtain ⟨D, hD⟩ : ∃ D, D = (U * 4294967296 + V1) % Y := ⟨_, rfl⟩
    rw [← hD, ← hQ1] at hdm HTD
    rw [← hD] at hDY
    rw [← hQ1] at hQL ⊢
    have HDY := Lib.hid hDY
    clear hQ1 hD HT1 HR5
    rw [Nat.mul_comm] at hdm
    have hDM : D < 18446744073709551616 := by obtain ⟨_, b2, _⟩ := HB.out; omega
    obtain ⟨x1, x2, x3, G1, G2, G3, G4⟩ := digit_rest U V1 Q1 Y D (by omega) (by omega) hDM
    obtain ⟨T2, F1, F2, F3, F4, F5⟩ := trial_first (u := D) (d := V0) (Y := Y) (A := A) (C := C) (by obtain ⟨_, _, _, _, _, _, b7, _⟩ := HB.out; exact b7) (by obtain ⟨_, _, _, _, _, b6, _⟩ := HB.out; exact b6) hDY (by obtain ⟨_, _, _, _, _, _, _, _, b9⟩ := HB.out; exact b9) (by obtain ⟨_, _, _, b4, _⟩ := HB.out; exact b4) (by obtain ⟨_, _, _, _, b5, _⟩ := HB.out; exact b5)
    have HT2 := Lib.hid T2
    have HR2 := Lib.hid F5
    have HQL := Lib.hid hQL
    have HUB := Lib.hid (show U < 18446744073709551616 by obtain ⟨_, b2, b3, _⟩ := HB.out; omega)
    clear T2 F5 hdm hDY hQL hDM
    generalize D / A * A = P1 at *
    generalize D / A = Qb at *
    generalize D % A = Rb at *
    go_upto_block 2 with fail
    clear F1 F2 F3 F4 G1 G2 G3 G4 q0 q0n q0m
    go_cut [18, 16] from 102 to 120 (fun vq _ wx => vq = .int .u64 (((D * 4294967296 + V0) / Y : Nat) : Int) ∧ w = wx)
    case first =>
      go_wp2_with fail
      go_loop [18, 16] (fun vq vr => ∃ q r : Nat, vq = .int .u64 q ∧ vr = .int .u64 r ∧ r < 4294967296 ∧ Hid (Trial D V0 Y A C q r 4294967296)) (fun vq _ => (intOf vq).toNat)
      case atStart => exact ⟨_, _, rfl, rfl, HR2.out, HT2⟩
      case round =>
        obtain ⟨q, r, rfl, rfl, hr, hT⟩ := hrel
        by_cases hq : 4294967296 ≤ q
        · have t1 : decide (4294967296 ≤ (q : Int)) = true := decide_eq_true (by omega)
          obtain ⟨hq0, hT2⟩ := hT.out.step (.inl hq)
          have e4 := q_dec hq0 (q_lt hT.out (by obtain ⟨b1, b2, b3, _⟩ := HB.out; have := HDY.out; omega) (by obtain ⟨_, _, _, b4, _⟩ := HB.out; exact b4))
          have e5 := r_up hr (show A < 4294967296 by obtain ⟨_, _, _, _, b5, _⟩ := HB.out; exact b5)
          have hlt : q - 1 < q := by omega
          have HT2 := Lib.hid hT2
          clear hT hT2
          generalize q - 1 = q2 at *
          generalize r + A = r2 at *
          by_cases hb : 4294967296 ≤ r2
          · have t2 : decide (4294967296 ≤ (r2 : Int)) = true := decide_eq_true (by omega)
            have hE := HT2.out.wide hb
            have HE := Lib.hid (HT2.out.stop hE.2)
            clear hE hb hlt hq0 hq hr
            go_wp2
            go_meet
            exact ⟨by rw [HE.out], rfl⟩
          · have t2 : decide (4294967296 ≤ (r2 : Int)) = false := decide_eq_false (by omega)
            have HLT := Lib.hid hlt
            have HBL := Lib.hid (show r2 < 4294967296 by omega)
            clear hb hlt hq0 hq hr
            go_wp2
            go_round
            case rel => exact ⟨q2, r2, rfl, rfl, HBL.out, HT2⟩
            case measure => simp [intOf]; exact HLT.out
        · have t1 : decide (4294967296 ≤ (q : Int)) = false := decide_eq_false (by omega)
          obtain ⟨f1, f2, f3⟩ := testE (d := V0) (C := C) (show q < 4294967296 by omega) (by obtain ⟨_, _, _, _, _, b6, _⟩ := HB.out; exact b6) hr (by obtain ⟨_, _, _, _, _, _, _, b8, b9⟩ := HB.out; exact b9)
          by_cases hk : 4294967296 * r + V0 < q * C
          · have t3 : decide (4294967296 * r + V0 < q * C) = true := decide_eq_true hk
            obtain ⟨hq0, hT2⟩ := hT.out.step (.inr hk)
            have e4 := q_dec hq0 (q_lt hT.out (by obtain ⟨b1, b2, b3, _⟩ := HB.out; have := HDY.out; omega) (by obtain ⟨_, _, _, b4, _⟩ := HB.out; exact b4))
            have e5 := r_up hr (show A < 4294967296 by obtain ⟨_, _, _, _, b5, _⟩ := HB.out; exact b5)
            have hlt : q - 1 < q := by omega
            have HT2 := Lib.hid hT2
            clear hT hT2
            generalize hkk : 4294967296 * r + V0 = k at *
            generalize hpp : q * C = p at *
            generalize hmm : 4294967296 * r = m at *
            clear hkk hpp hmm
            generalize q - 1 = q2 at *
            generalize r + A = r2 at *
            by_cases hb : 4294967296 ≤ r2
            · have t2 : decide (4294967296 ≤ (r2 : Int)) = true := decide_eq_true (by omega)
              have hE := HT2.out.wide hb
              have HE := Lib.hid (HT2.out.stop hE.2)
              clear hE hb hlt hq0 hq hr hk
              go_wp2
              go_meet
              exact ⟨by rw [HE.out], rfl⟩
            · have t2 : decide (4294967296 ≤ (r2 : Int)) = false := decide_eq_false (by omega)
              have HLT := Lib.hid hlt
              have HBL := Lib.hid (show r2 < 4294967296 by omega)
              clear hb hlt hq0 hq hr hk
              go_wp2
              go_round
              case rel => exact ⟨q2, r2, rfl, rfl, HBL.out, HT2⟩
              case measure => simp [intOf]; exact HLT.out
          · have t3 : decide (4294967296 * r + V0 < q * C) = false := decide_eq_false hk
            have HE := Lib.hid (hT.out.stop (by omega))
            clear hT
            generalize hkk : 4294967296 * r + V0 = k at *
            generalize hpp : q * C = p at *
            generalize hmm : 4294967296 * r = m at *
            clear hkk hpp hmm
            clear hk hq hr
            go_wp2
            go_meet
            exact ⟨by rw [HE.out], rfl⟩
    case rest =>
      obtain ⟨rfl, rfl⟩ := hcut
      have hQL := HT2.out.lt
      have hdm := Nat.div_add_mod (D * 4294967296 + V0) Y
      have hDY := Nat.mod_lt (D * 4294967296 + V0) (show 0 < Y by obtain ⟨b1, _⟩ := HB.out; omega)
      have hTD := HTD.out
      have hRes := HRes.out
      have e : U * 18446744073709551616 + V = (U * 4294967296 + V1) * 4294967296 + V0 := by have := HV.out; omega
      rw [e, hTD.1, hTD.2] at hRes
      have K5 : IntKind.u64.wrap ((Q1 : Int) * 4294967296) = ((Q1 * 4294967296 : Nat) : Int) := by
        have := HQL.out
        rw [show ((Q1 : Int) * 4294967296) = ((Q1 * 4294967296 : Nat) : Int) by omega]
        exact wsame _ (by omega)
      obtain ⟨Q0, hQ0⟩ : ∃ Q0, Q0 = (D * 4294967296 + V0) / Y := ⟨_, rfl⟩
      obtain ⟨R0, hR0⟩ : ∃ R0, R0 = (D * 4294967296 + V0) % Y := ⟨_, rfl⟩
      rw [← hQ0, ← hR0] at hdm
      rw [← hR0] at hDY
      rw [← hQ0, ← hR0] at hRes
      rw [← hQ0] at hQL ⊢
      rw [Nat.mul_comm] at hdm
      have K6 : IntKind.u64.wrap (((Q1 * 4294967296 : Nat) : Int) + (Q0 : Int)) = (((hi * 18446744073709551616 + lo) / y : Nat) : Int) := by
        have := HQL.out
        rw [← hRes.1, wadd, Nat.mod_eq_of_lt (by omega)]
      have hRM : R0 < 18446744073709551616 := by obtain ⟨_, b2, _⟩ := HB.out; omega
      obtain ⟨x5, x6, x7, K1, K2, K3, K4⟩ := digit_rest D V0 Q0 Y R0 (by omega) (by omega) hRM
      have K7 : (R0 : Int) / 2 ^ s = (((hi * 18446744073709551616 + lo) % y : Nat) : Int) := by rw [wshr, hRes.2]
      clear hdm hDY hQL hRM hRes hTD e hQ0 hR0 HQL HTD HRes HT2 HR2 HV HB HUB HDY
      obtain ⟨x8, hx8⟩ : ∃ x : Nat, x = Q1 * 4294967296 := ⟨_, rfl⟩
      rw [← hx8] at K5 K6
      clear hx8
      go_wp2
      go_ret2
      exact ⟨rfl, rfl⟩
end Go.Proofs.YthkobjbemmllfaaGreatDoor
