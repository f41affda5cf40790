/- The Reader's low, Fixed, Byte, Int, Upto: walked. -/
import Derived.Test.YtnodjcapclkmhaaDoorReader
namespace Go.Proofs.YtnodjcapclkmhaaDoor
open Go.RowKit

/-- The number of the first k bytes from p on, the low one first. -/
def lowV (s : ByteArray) (p : Nat) : Nat → Nat
  | 0 => 0
  | k + 1 => lowV s p k + byt s (p + k) * 2 ^ (8 * k)
def lowG (s : ByteArray) (p n : Nat) : Except Nat (Nat × Nat) := if s.size - p < n then .error 1 else .ok (lowV s p n, p + n)

theorem or_low (x b i : Nat) (hx : x < 2 ^ (8 * i)) (hi : i < 8) (hb : b < 256) :
    bits .or .u64 (x : Int) (IntKind.u64.wrap ((b : Int) * 2 ^ (8 * i))) = ((x + b * 2 ^ (8 * i) : Nat) : Int) ∧ x + b * 2 ^ (8 * i) < 2 ^ (8 * (i + 1)) := by
  have hpow : (2 : Nat) ^ (8 * (i + 1)) = 256 * 2 ^ (8 * i) := by rw [show 8 * (i + 1) = 8 * i + 8 by omega, Nat.pow_add]; omega
  have h56 : (2 : Nat) ^ (8 * i) ≤ 2 ^ 56 := Nat.pow_le_pow_right (by decide) (by omega)
  have hj := nat_join (8 * i) (b * 2 ^ (8 * i)) x (Nat.mul_mod_left _ _) hx
  have hcast : ((b : Int) * 2 ^ (8 * i)) = ((b * 2 ^ (8 * i) : Nat) : Int) := by
    rw [Int.natCast_mul, Int.natCast_pow]; rfl
  rw [hcast, hpow]
  generalize hP : (2 : Nat) ^ (8 * i) = P at *
  have h255 : b * P ≤ 255 * P := Nat.mul_le_mul_right _ (by omega)
  generalize b * P = Y at *
  refine ⟨?_, by omega⟩
  rw [IntKind.wrap_u64, show ((Y : Int)) % 18446744073709551616 = ((Y : Nat) : Int) by omega, u64_or_nat _ _ (by omega) (by omega), Nat.or_comm, hj, Nat.add_comm]

set_option maxRecDepth 100000 in
set_option maxHeartbeats 1000000 in
theorem rlow_any (B : Nat → Addr) (B0 g : Nat) (s : ByteArray) (p n : Nat) (w : World) (hE : EnvB B0 w B) (_hg0 : B0 ≤ g) (hR : Rdr w g s p) (hp : p ≤ s.size) (hs : s.size ≤ 9223372036854770000) (hn : n ≤ 8) :
    Calls Tryd.prog 71 #[.pointer (some ⟨g, 0, none⟩), .int .i64 n] w fun e w' => e = .returned (uV B (lowG s p n)) ∧ Rdr w' g s (uP p (lowG s p n)) ∧ Wrote w w' g none none := by
  have a1 := left_any g s p w hR hp (by omega)
  have g1 := hE.env.cell 1 (by decide)
  have HE := Lib.hid hE; clear hE
  unfold lowG
  by_cases h : s.size - p < n
  · rw [if_pos h]
    have h' : ((s.size - p : Nat) : Int) < (n : Int) := by omega
    have HR := Lib.hid hR; clear hR
    generalize s.size - p = m at *
    go_enter Tryd.func71, Tryd.ntmps71
    go_wp2_with fail
    refine a1.mono ?_
    rintro e w' ⟨rfl, k, rfl⟩
    go_wp2
    go_quiet (fail)
    go_wp2
    go_ret2
    exact ⟨rfl, HR.out, ((Wrote.refl _ _ _).drewN _).drewN _⟩
  · rw [if_neg h]
    have hle : p + n ≤ s.size := by omega
    have h' : ¬ ((s.size - p : Nat) : Int) < (n : Int) := by omega
    have HR := Lib.hid hR; clear hR
    generalize s.size - p = m at *
    clear g1
    go_enter Tryd.func71, Tryd.ntmps71
    go_wp2_with fail
    refine a1.mono ?_
    rintro e w' ⟨rfl, k, rfl⟩
    go_wp2
    go_loopw [6, 14, 7] (fun vx vi _ wr => ∃ i : Nat, i ≤ n ∧ vx = .int .u64 (lowV s p i) ∧ vi = .int .i64 i ∧ Hid (lowV s p i < 2 ^ (8 * i) ∧ Rdr wr g s p ∧ Wrote w wr g none none)) (fun _ vi _ _ => n - (intOf vi).toNat)
    case atStart => exact ⟨0, Nat.zero_le _, rfl, rfl, (by decide : (0 : Nat) < 1), HR.out.drewN _, (Wrote.refl _ _ _).drewN _⟩
    case round =>
      obtain ⟨i, hi, rfl, rfl, hh⟩ := hrel
      obtain ⟨hv, hr, hw⟩ := hh.out
      have HV := Lib.hid hv; have HR := Lib.hid hr; have HW := Lib.hid hw; clear hv hr hw hh
      obtain ⟨c0, c1, f1, hgl⟩ := HR.out.cells
      by_cases hlt : i < n
      · have kix := fun w : World => index_str s p i w (by omega)
        have hor := or_low (lowV s p i) (byt s (p + i)) i HV.out (by omega) (byt_lt _ _)
        have HN := Lib.hid (show lowV s p (i + 1) = lowV s p i + byt s (p + i) * 2 ^ (8 * i) from rfl)
        rw [← HN.out] at hor
        have HOR := Lib.hid hor; clear hor
        have HB := Lib.hid (show IntKind.u64.wrap (byt s (p + i) : Nat) = (byt s (p + i) : Nat) from by have := byt_lt s (p + i); rw [IntKind.wrap_u64]; omega)
        generalize byt s (p + i) = b at *
        go_wp2
        go_quiet (fail)
        go_wp2
        go_roundw
        case rel => exact ⟨i + 1, by omega, by rw [HB.out, ← HOR.out.1], by go_num, HOR.out.2, HR.out, HW.out.drewN _⟩
        case measure => simp [intOf]; omega
      · obtain rfl : i = n := by omega
        go_wp2
        go_ret2
        exact ⟨rfl, (rdr_done (q' := p + i) (k := 0) HR.out HW.out (by omega)).1, (rdr_done (q' := p + i) (k := 0) HR.out HW.out (by omega)).2⟩

theorem rFixed_any (B : Nat → Addr) (B0 g : Nat) (s : ByteArray) (p : Nat) (w : World) (hE : EnvB B0 w B) (hg0 : B0 ≤ g) (hR : Rdr w g s p) (hp : p ≤ s.size) (hs : s.size ≤ 9223372036854770000) :
    Calls Tryd.prog 55 #[.pointer (some ⟨g, 0, none⟩)] w fun e w' => e = .returned (uV B (lowG s p 8)) ∧ Rdr w' g s (uP p (lowG s p 8)) ∧ Wrote w w' g none none := by
  have a1 := rlow_any B B0 g s p 8 w hE hg0 hR hp hs (by decide)
  clear hE hR
  have e1 : ∃ x y, uV B (lowG s p 8) = .tuple #[x, y] := by
    cases lowG s p 8 with
    | error e => exact ⟨_, _, rfl⟩
    | ok x => exact ⟨_, _, rfl⟩
  obtain ⟨x, y, e1⟩ := e1
  generalize uV B (lowG s p 8) = V at *
  subst e1
  go_enter Tryd.func55, Tryd.ntmps55
  go_wp2_with fail
  refine a1.mono ?_
  rintro e w' ⟨rfl, h1, h2⟩
  have H1 := Lib.hid h1; have H2 := Lib.hid h2; clear h1 h2
  go_wp2
  go_ret2
  exact ⟨rfl, H1.out, H2.out⟩
end Go.Proofs.YtnodjcapclkmhaaDoor
