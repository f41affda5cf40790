/- The Reader's Int, Byte, Upto: walked. -/
import Derived.Test.YtnodjcapclkmhaaDoorReader2
import Derived.Test.YtnodjcapclkmhaaDoorWriter2
import Derived.Laws.DeepNot64
namespace Go.Proofs.YtnodjcapclkmhaaDoor
open Go.RowKit

theorem uG_lt (s : ByteArray) (p : Nat) : ∀ (n i x : Nat), n = s.size - (p + i) → i ≤ 9 → x < 2 ^ (7 * i) → ∀ y q, uG s p i x = .ok (y, q) → y < 18446744073709551616 ∧ p < q ∧ q ≤ s.size := by
  intro n
  induction n with
  | zero =>
    intro i x hn _ _ y q h
    rw [uG, dif_neg (by omega)] at h
    cases h
  | succ n ih =>
    intro i x hn hi hx y q h
    have hlt : p + i < s.size := by omega
    rw [uG_at s p i x hlt] at h
    have hb := byt_lt s (p + i)
    by_cases h9 : i = 9 ∧ 1 < byt s (p + i)
    · rw [if_pos h9] at h; cases h
    · rw [if_neg h9] at h
      have hor := or_join x (byt s (p + i)) i hx hi (fun e => by
        rcases Nat.lt_or_ge 1 (byt s (p + i)) with h | h
        · exact absurd ⟨e, h⟩ h9
        · exact h)
      by_cases h7 : byt s (p + i) < 128
      · rw [if_pos h7] at h
        split at h
        · cases h
        · obtain ⟨rfl, rfl⟩ := Prod.mk.inj (Except.ok.inj h)
          exact ⟨hor.2.2, by omega, by omega⟩
      · rw [if_neg h7] at h
        have hi8 : i ≠ 9 := fun e => h9 ⟨e, by omega⟩
        exact ih (i + 1) _ (by omega) (by omega) hor.2.1 y q h
theorem uG_ok {s : ByteArray} {p y q : Nat} (h : uG s p 0 0 = .ok (y, q)) : y < 18446744073709551616 ∧ p < q ∧ q ≤ s.size := uG_lt s p _ 0 0 rfl (by decide) (by decide) y q h

/-- The signed number at place x among the unsigned. -/
def unz (x : Nat) : Int := if x % 2 = 1 then -((x / 2 : Nat) : Int) - 1 else ((x / 2 : Nat) : Int)
def mapG {α β : Type} (f : α → β) : Except Nat (α × Nat) → Except Nat (β × Nat)
  | .ok (x, q) => .ok (f x, q)
  | .error e => .error e
def iV (B : Nat → Addr) : Except Nat (Int × Nat) → Value
  | .ok (x, _) => .tuple #[.int .i64 x, .nilIface]
  | .error e => .tuple #[.int .i64 0, ev B e]

theorem i64_xor_comm (a b : Int) : bits .xor .i64 a b = bits .xor .i64 b a := by
  show IntKind.i64.wrap ((BitVec.ofInt 64 a ^^^ BitVec.ofInt 64 b).toNat : Int) = IntKind.i64.wrap ((BitVec.ofInt 64 b ^^^ BitVec.ofInt 64 a).toNat : Int)
  rw [BitVec.xor_comm]
theorem i64_xor0 (a : Nat) (ha : a < 9223372036854775808) : bits .xor .i64 (a : Int) 0 = a := by
  show IntKind.i64.wrap ((BitVec.ofInt 64 (a : Int) ^^^ BitVec.ofInt 64 0).toNat : Int) = _
  rw [show BitVec.ofInt 64 0 = 0#64 from rfl, BitVec.xor_zero, ofInt_u64 a (by omega)]
  simp [IntKind.wrap, IntKind.bits, IntKind.signed]
  omega
theorem unz_bits (x : Nat) (hx : x < 18446744073709551616) : bits .xor .i64 ((x : Int) / 2) (wrap64 (-wrap64 (bits .and .u64 (x : Int) 1))) = unz x := by
  have e1 : bits .and .u64 (x : Int) 1 = ((x % 2 : Nat) : Int) := by
    rw [show (1 : Int) = ((1 : Nat) : Int) from rfl, u64_and_nat x 1 hx (by decide), Nat.and_one_is_mod]
  have e2 : ((x : Int) / 2) = ((x / 2 : Nat) : Int) := by omega
  rw [e1, e2]
  unfold unz
  by_cases h : x % 2 = 1
  · rw [if_pos h, h, show wrap64 (-wrap64 ((1 : Nat) : Int)) = -1 by simp [wrap64], i64_xor_comm, i64_not _ (by omega)]
    omega
  · rw [if_neg h, show x % 2 = 0 by omega, show wrap64 (-wrap64 ((0 : Nat) : Int)) = 0 by simp [wrap64], i64_xor0 _ (by omega)]

set_option maxHeartbeats 400000 in
theorem rInt_any (B : Nat → Addr) (B0 g : Nat) (s : ByteArray) (p : Nat) (w : World) (hE : EnvB B0 w B) (hg0 : B0 ≤ g) (hR : Rdr w g s p) (hp : p ≤ s.size) (hs : s.size ≤ 9223372036854770000) :
    Calls Tryd.prog 53 #[.pointer (some ⟨g, 0, none⟩)] w fun e w' => e = .returned (iV B (mapG unz (uG s p 0 0))) ∧ Rdr w' g s (uP p (uG s p 0 0)) ∧ Wrote w w' g none none := by
  have a1 := rUint_any B B0 g s p w hE hg0 hR hp hs
  clear hE hR
  cases hu : uG s p 0 0 with
  | error e =>
    rw [hu] at a1
    simp only [uV, uP] at a1
    simp only [mapG, iV, uP]
    generalize ev B e = v at *
    have k0 : bits .xor .i64 0 (wrap64 (-wrap64 (bits .and .u64 0 1))) = 0 := unz_bits 0 (by decide)
    go_enter Tryd.func53, Tryd.ntmps53
    go_wp2_with fail
    refine a1.mono ?_
    rintro e w' ⟨rfl, h1, h2⟩
    have H1 := Lib.hid h1; have H2 := Lib.hid h2; clear h1 h2
    go_wp2
    go_ret2
    exact ⟨rfl, H1.out, H2.out⟩
  | ok y =>
    obtain ⟨x, q⟩ := y
    obtain ⟨hx, _, _⟩ := uG_ok hu
    rw [hu] at a1
    simp only [uV, uP] at a1
    simp only [mapG, iV, uP]
    have ku := unz_bits x hx
    clear hu
    go_enter Tryd.func53, Tryd.ntmps53
    go_wp2_with fail
    refine a1.mono ?_
    rintro e w' ⟨rfl, h1, h2⟩
    have H1 := Lib.hid h1; have H2 := Lib.hid h2; clear h1 h2
    go_wp2
    go_ret2
    exact ⟨rfl, H1.out, H2.out⟩

/-- What Byte answers. -/
def bV (B : Nat → Addr) : Except Nat (Nat × Nat) → Value
  | .ok (x, _) => .tuple #[.int .u8 x, .nilIface]
  | .error e => .tuple #[.int .u8 0, ev B e]
set_option maxHeartbeats 400000 in
theorem rByte_any (B : Nat → Addr) (B0 g : Nat) (s : ByteArray) (p : Nat) (w : World) (hE : EnvB B0 w B) (hg0 : B0 ≤ g) (hR : Rdr w g s p) (hp : p ≤ s.size) (hs : s.size ≤ 9223372036854770000) :
    Calls Tryd.prog 57 #[.pointer (some ⟨g, 0, none⟩)] w fun e w' => e = .returned (bV B (lowG s p 1)) ∧ Rdr w' g s (uP p (lowG s p 1)) ∧ Wrote w w' g none none := by
  have a1 := rlow_any B B0 g s p 1 w hE hg0 hR hp hs (by decide)
  clear hE hR
  unfold lowG at *
  by_cases h : s.size - p < 1
  · rw [if_pos h] at *
    simp only [uV, uP] at a1
    simp only [bV, uP]
    generalize ev B 1 = v at *
    clear h
    go_enter Tryd.func57, Tryd.ntmps57
    go_wp2_with fail
    refine a1.mono ?_
    rintro e w' ⟨rfl, h1, h2⟩
    have H1 := Lib.hid h1; have H2 := Lib.hid h2; clear h1 h2
    go_wp2
    go_ret2
    exact ⟨rfl, H1.out, H2.out⟩
  · rw [if_neg h] at *
    simp only [uV, uP] at a1
    simp only [bV, uP]
    have e1 : lowV s p 1 = byt s p := by unfold lowV lowV; rw [Nat.add_zero, Nat.zero_add]; exact Nat.mul_one _
    have hb := byt_lt s p
    rw [e1] at a1 ⊢
    generalize byt s p = b at *
    have hw : (b : Int) % 256 = b := by omega
    clear h e1
    go_enter Tryd.func57, Tryd.ntmps57
    go_wp2_with fail
    refine a1.mono ?_
    rintro e w' ⟨rfl, h1, h2⟩
    have H1 := Lib.hid h1; have H2 := Lib.hid h2; clear h1 h2
    go_wp2
    go_ret2

    exact ⟨rfl, H1.out, H2.out⟩
end Go.Proofs.YtnodjcapclkmhaaDoor
