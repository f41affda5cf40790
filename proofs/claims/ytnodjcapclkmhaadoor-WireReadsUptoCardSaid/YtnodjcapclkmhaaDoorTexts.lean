/- The Writer's Texts and Int: walked. -/
import Derived.Test.YtnodjcapclkmhaaDoorWriter2
namespace Go.Proofs.YtnodjcapclkmhaaDoor
open Go.RowKit

/-- The first k texts, each with its length. -/
def tsL (ss : Nat → ByteArray) : Nat → List Int
  | 0 => []
  | k + 1 => tsL ss k ++ textL (ss k)
/-- A list of texts. -/
def textsL (ss : Nat → ByteArray) (n : Nat) : List Int := uvL n ++ tsL ss n
theorem tsL_mono (ss : Nat → ByteArray) {k n : Nat} (h : k ≤ n) : (tsL ss k).length ≤ (tsL ss n).length := by
  induction n with
  | zero => obtain rfl : k = 0 := by omega
            exact Nat.le_refl _
  | succ m ih =>
    by_cases e : k = m + 1
    · subst e; exact Nat.le_refl _
    · have := ih (by omega)
      show _ ≤ (tsL ss m ++ textL (ss m)).length
      rw [List.length_append]; omega

/-- A slice of texts of address A whose n cells hold ss, beside the buffer (g, r). -/
def Txs (w : World) (A : Option Addr) (n : Nat) (ss : Nat → ByteArray) (g : Nat) (r : Option Nat) : Prop :=
  0 < n → ∃ b o, A = some ⟨b, o, none⟩ ∧ b < w.heap.size ∧ b ≠ g ∧ some b ≠ r ∧ ∀ i, i < n → w.cell? ⟨b, o + i, none⟩ = some (.string (ss i))

set_option maxRecDepth 100000 in
set_option maxHeartbeats 1000000 in
theorem each_any (B g : Nat) (xs : List Int) (r : Option Nat) (A : Option Addr) (n c : Nat) (ss : Nat → ByteArray) (w : World) (hW : Wri w B g xs r) (hA : Txs w A n ss g r) (hn : n < 9223372036854775808) (hl : (xs ++ textsL ss n).length ≤ 140737488355328) :
    Calls Tryd.prog 46 #[.pointer (some ⟨g, 0, none⟩), .slice A n c, .func (.func 42) #[.pointer (some ⟨g, 0, none⟩)] #[]] w fun e w' => e = .returned (.tuple #[]) ∧ ∃ r', Wri w' B g (xs ++ textsL ss n) r' ∧ Wrote w w' g r r' := by
  have hl1 : (xs ++ uvL n).length ≤ 140737488355328 := by unfold textsL at hl; rw [← List.append_assoc, List.length_append] at hl; omega
  have a1 := uint_any B g xs r n w hW (by omega) hl1
  have HL := Lib.hid hl; have HA := Lib.hid hA; clear hW hl hA
  go_enter Tryd.func46, Tryd.ntmps46
  go_wp2_with fail
  refine a1.mono ?_
  rintro e w1 ⟨rfl, r1, h1, h2⟩
  have H1 := Lib.hid h1; have H2 := Lib.hid h2; clear h1 h2
  go_wp2_with fail
  go_loopw [7, 15] (fun _ i wr => ∃ (k : Nat) (rr : Option Nat), i = .int .i64 k ∧ k ≤ n ∧ Hid (Wri wr B g (xs ++ uvL n ++ tsL ss k) rr ∧ Wrote w wr g r rr)) (fun _ i _ => n - (intOf i).toNat)
  case atStart => exact ⟨0, r1, rfl, Nat.zero_le _, by show Wri _ _ _ (xs ++ uvL n ++ []) _; rw [List.append_nil]; exact H1.out, H2.out⟩
  case round =>
    obtain ⟨k, rr, rfl, hk, hh⟩ := hrel
    by_cases h : k < n
    · obtain ⟨b, o, rfl, hb, hbg, hbr, hc⟩ := HA.out (by omega)
      have e1 : wr.cell? ⟨b, o + k, none⟩ = some (.string (ss k)) := (World.cell?_of_block (hh.out.2.block b hb hbg hbr)).trans (hc k h)
      have HC := Lib.hid hc; clear hc
      have hlen : (xs ++ uvL n ++ tsL ss k ++ textL (ss k)).length ≤ 140737488355328 := by
        have h1 := HL.out
        have h2 := tsL_mono ss (show k + 1 ≤ n by omega)
        unfold textsL at h1
        have h3 : (tsL ss (k + 1)).length = (tsL ss k).length + (textL (ss k)).length := by show (tsL ss k ++ textL (ss k)).length = _; rw [List.length_append]
        simp only [List.length_append] at h1 ⊢
        omega
      have a2 := text_any B g _ rr (ss k) wr hh.out.1 hlen
      have HH := Lib.hid hh.out; clear hh
      go_wp2_with fail
      refine a2.mono ?_
      rintro e w2 ⟨rfl, r2, h3, h4⟩
      have H3 := Lib.hid h3; have H4 := Lib.hid h4; clear h3 h4
      go_wp2
      go_roundw
      case rel => exact ⟨k + 1, r2, by go_num, by omega, by show Wri _ _ _ (xs ++ uvL n ++ (tsL ss k ++ textL (ss k))) _; rw [← List.append_assoc]; exact H3.out, HH.out.2.trans H4.out⟩
      case measure => simp [intOf]; omega
    · obtain rfl : k = n := by omega
      have HH := Lib.hid hh.out; clear hh
      go_wp2
      go_end0
      exact ⟨rfl, rr, by unfold textsL; rw [← List.append_assoc]; exact HH.out.1, HH.out.2⟩

theorem texts_any (B g : Nat) (xs : List Int) (r : Option Nat) (A : Option Addr) (n c : Nat) (ss : Nat → ByteArray) (w : World) (hW : Wri w B g xs r) (hA : Txs w A n ss g r) (hn : n < 9223372036854775808) (hl : (xs ++ textsL ss n).length ≤ 140737488355328) :
    Calls Tryd.prog 15 #[.pointer (some ⟨g, 0, none⟩), .slice A n c] w fun e w' => e = .returned (.tuple #[]) ∧ ∃ r', Wri w' B g (xs ++ textsL ss n) r' ∧ Wrote w w' g r r' := by
  have a1 := each_any B g xs r A n c ss w hW hA hn hl
  clear hW hA hl
  go_enter Tryd.func15, Tryd.ntmps15
  go_wp2_with fail
  refine a1.mono ?_
  rintro e w' ⟨rfl, r', h1, h2⟩
  have H1 := Lib.hid h1; have H2 := Lib.hid h2; clear h1 h2
  go_wp2
  go_end0
  exact ⟨rfl, r', H1.out, H2.out⟩

/-- A signed number's place among the unsigned. -/
def zig (x : Int) : Nat := if x < 0 then (2 * (-(x + 1)) + 1).toNat else (2 * x).toNat

theorem xor_ones (a : Nat) (h : a < 2 ^ 64) : a ^^^ (2 ^ 64 - 1) = 2 ^ 64 - (a + 1) := by
  apply Nat.eq_of_testBit_eq
  intro i
  rw [Nat.testBit_xor, Nat.testBit_two_pow_sub_one, Nat.testBit_two_pow_sub_succ h]
  by_cases hi : i < 64
  · simp [hi]
  · have : a.testBit i = false := Nat.testBit_lt_two_pow (Nat.lt_of_lt_of_le h (Nat.pow_le_pow_right (by decide) (by omega)))
    simp [hi, this]
theorem zig_lt {x : Int} (hx : -9223372036854775808 ≤ x ∧ x ≤ 9223372036854775807) : zig x < 18446744073709551616 := by
  unfold zig; split <;> omega
theorem zig_bits {x : Int} (hx : -9223372036854775808 ≤ x ∧ x ≤ 9223372036854775807) : bits .xor .u64 (IntKind.u64.wrap (wrap64 (x * 2))) (IntKind.u64.wrap (x / 9223372036854775808)) = ((zig x : Nat) : Int) := by
  rw [IntKind.wrap_u64, IntKind.wrap_u64]
  by_cases h0 : x < 0
  · have e1 : x / 9223372036854775808 % 18446744073709551616 = ((18446744073709551615 : Nat) : Int) := by omega
    have e2 : wrap64 (x * 2) % 18446744073709551616 = (((18446744073709551616 + 2 * x) % 18446744073709551616).toNat : Int) := by unfold wrap64; omega
    rw [e1, e2, bits_xor_u64_nat _ _ (by omega) (by decide)]
    have e3 := xor_ones (((18446744073709551616 + 2 * x) % 18446744073709551616).toNat) (by omega)
    rw [show (2 ^ 64 - 1 : Nat) = 18446744073709551615 from rfl] at e3
    rw [e3]
    unfold zig
    rw [if_pos h0]
    omega
  · have e1 : x / 9223372036854775808 % 18446744073709551616 = ((0 : Nat) : Int) := by omega
    have e2 : wrap64 (x * 2) % 18446744073709551616 = ((2 * x).toNat : Int) := by unfold wrap64; omega
    rw [e1, e2, bits_xor_u64_nat _ _ (by omega) (by decide), Nat.xor_zero]
    unfold zig
    rw [if_neg h0]

set_option maxRecDepth 100000 in
set_option maxHeartbeats 1000000 in
theorem int_any (B g : Nat) (xs : List Int) (r : Option Nat) (x : Int) (w : World) (hW : Wri w B g xs r) (hx : -9223372036854775808 ≤ x ∧ x ≤ 9223372036854775807) (hl : (xs ++ uvL (zig x)).length ≤ 140737488355328) :
    Calls Tryd.prog 32 #[.pointer (some ⟨g, 0, none⟩), .int .i64 x] w fun e w' => e = .returned (.tuple #[]) ∧ ∃ r', Wri w' B g (xs ++ uvL (zig x)) r' ∧ Wrote w w' g r r' := by
  have a1 := uint_any B g xs r (zig x) w hW (zig_lt hx) hl
  have kz := zig_bits hx
  have HW := Lib.hid hW; have HL := Lib.hid hl; have HX := Lib.hid hx; clear hW hl hx
  go_enter Tryd.func32, Tryd.ntmps32
  go_wp2_with fail
  refine a1.mono ?_
  rintro e w' ⟨rfl, r', h1, h2⟩
  go_wp2
  go_end0
  exact ⟨rfl, r', h1, h2⟩
end Go.Proofs.YtnodjcapclkmhaaDoor
