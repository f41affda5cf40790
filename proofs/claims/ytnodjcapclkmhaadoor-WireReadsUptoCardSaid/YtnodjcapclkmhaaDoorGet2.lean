/- The document's readings: GetLow, GetFloat, GetText: walked. -/
import Derived.Test.YtnodjcapclkmhaaDoorGet
namespace Go.Proofs.YtnodjcapclkmhaaDoor
open Go.RowKit

theorem low_step {s : ByteArray} {p n i X : Nat} (hn : n ≤ 8) (hi : i + 1 ≤ n) (h : lowV s p n = lowV s p (i + 1) + 2 ^ (8 * (i + 1)) * X) (hX : X < 2 ^ (8 * (n - (i + 1)))) :
    lowV s p n = lowV s p i + 2 ^ (8 * i) * (X * 256 + byt s (p + i)) ∧ X * 256 + byt s (p + i) < 2 ^ (8 * (n - i)) ∧ X ≤ 72057594037927935 := by
  have hb := byt_lt s (p + i)
  have e1 : lowV s p (i + 1) = lowV s p i + byt s (p + i) * 2 ^ (8 * i) := rfl
  have e2 : (2 : Nat) ^ (8 * (i + 1)) = 2 ^ (8 * i) * 256 := by rw [show 8 * (i + 1) = 8 * i + 8 by omega, Nat.pow_add]
  have e3 : (2 : Nat) ^ (8 * (n - i)) = 2 ^ (8 * (n - (i + 1))) * 256 := by rw [show 8 * (n - i) = 8 * (n - (i + 1)) + 8 by omega, Nat.pow_add]
  have e4 : (2 : Nat) ^ (8 * (n - (i + 1))) ≤ 2 ^ 56 := Nat.pow_le_pow_right (by decide) (by omega)
  refine ⟨?_, by omega, by omega⟩
  rw [h, e1, e2, Nat.mul_add, Nat.mul_assoc, Nat.mul_comm 256 X, Nat.mul_comm (byt s (p + i))]
  omega

set_option maxRecDepth 100000 in
set_option maxHeartbeats 1000000 in
theorem getLow_any (s : ByteArray) (p n : Nat) (w : World) (hp : p ≤ s.size) (hs : s.size ≤ 9223372036854770000) (hn : n ≤ 8) :
    Calls Tryd.prog 56 #[.string s, .int .i64 p, .int .i64 n] w fun e w' => e = .returned (gU p (lowG s p n)) ∧ w = w' := by
  unfold lowG
  by_cases h : s.size - p < n
  · rw [if_pos h]
    have h' : (s.size : Int) - (p : Int) < (n : Int) := by omega
    go_enter Tryd.func56, Tryd.ntmps56
    go_wp2
    go_ret3
    exact ⟨rfl, rfl⟩
  · rw [if_neg h]
    have h' : ¬ (s.size : Int) - (p : Int) < (n : Int) := by omega
    go_enter Tryd.func56, Tryd.ntmps56
    go_wp2
    go_loop [9, 10] (fun vx vi => ∃ (i X : Nat), i ≤ n ∧ vx = .int .u64 X ∧ vi = .int .i64 ((i : Int) - 1) ∧ Hid (lowV s p n = lowV s p i + 2 ^ (8 * i) * X ∧ X < 2 ^ (8 * (n - i)))) (fun _ vi => (intOf vi + 1).toNat)
    case atStart => exact ⟨n, 0, Nat.le_refl _, rfl, rfl, by simp, by simp⟩
    case round =>
      obtain ⟨i, X, hi, rfl, rfl, hh⟩ := hrel
      cases i with
      | zero =>
        have HV := Lib.hid (show (X : Nat) = lowV s p n by have := hh.out.1; simp [lowV] at this; omega)
        rw [show (((0 : Nat) : Int) - 1) = -1 from rfl]
        go_wp2
        go_ret3
        exact ⟨by rw [← HV.out]; rfl, rfl⟩
      | succ i =>
        rw [show (((i + 1 : Nat) : Int) - 1) = (i : Int) by omega]
        obtain ⟨l1, l2, l3⟩ := low_step hn hi hh.out.1 hh.out.2
        have hX : (X : Int) ≤ 72057594037927935 := by omega
        have hb8 := byt_lt s (p + i)
        have kix := fun w : World => index_str s p i w (by omega)
        have kw : IntKind.u64.wrap (byt s (p + i) : Nat) = (byt s (p + i) : Nat) := by rw [IntKind.wrap_u64]; omega
        have HL := Lib.hid (And.intro l1 l2); clear l1 l2 l3
        generalize byt s (p + i) = b at *
        go_wp2
        go_round
        case rel => exact ⟨i, X * 256 + b, by omega, by go_num, rfl, HL.out⟩
        case measure => simp [intOf]
set_option maxRecDepth 100000 in
set_option maxHeartbeats 1000000 in
theorem getFloat_any (s : ByteArray) (p : Nat) (w : World) (hp : p ≤ s.size) (hs : s.size ≤ 9223372036854770000) :
    Calls Tryd.prog 59 #[.string s, .int .i64 p] w fun e w' => e = .returned (g3 (.int .u32 0) (fun x => .int .u32 (x : Nat)) p (fG s p)) ∧ w = w' := by
  have a1 := getLow_any s p 4 w hp hs (by decide)
  unfold fG
  cases hu : lowG s p 4 with
  | error e =>
    obtain rfl := lowG_err hu
    rw [hu] at a1
    simp only [gU, g3] at a1 ⊢
    clear hu
    go_enter Tryd.func59, Tryd.ntmps59
    go_wp2_with fail
    refine a1.mono ?_
    rintro e w' ⟨rfl, rfl⟩
    go_wp2
    go_ret3
    exact ⟨rfl, rfl⟩
  | ok y =>
    obtain ⟨x, q⟩ := y
    have hx : x < 4294967296 := (lowG_ok hu).1
    rw [hu] at a1
    simp only [gU, g3] at a1
    simp only []
    clear hu
    have km : (x : Int) % 4294967296 = (x : Int) := by omega
    have a2 := fun w => isNaN_any x w hx
    cases hn : nan32 x with
    | false =>
      rw [hn] at a2
      simp only [Bool.false_eq_true, false_and, if_false, g3]
      go_enter Tryd.func59, Tryd.ntmps59
      go_wp2_with fail
      refine a1.mono ?_
      rintro e w' ⟨rfl, rfl⟩
      go_wp2_with fail
      refine (a2 _).mono ?_
      rintro e w' ⟨rfl, rfl⟩
      go_wp2
      go_ret3
      exact ⟨rfl, rfl⟩
    | true =>
      rw [hn] at a2
      by_cases h : x = 2143289344
      · simp only [ne_eq, h, not_true, and_false, if_false, g3]
        have hc : ((x : Int) != 2143289344) = false := by simp; omega
        rw [← h]
        clear h
        go_enter Tryd.func59, Tryd.ntmps59
        go_wp2_with fail
        refine a1.mono ?_
        rintro e w' ⟨rfl, rfl⟩
        go_wp2_with fail
        refine (a2 _).mono ?_
        rintro e w' ⟨rfl, rfl⟩
        go_wp2
        go_ret3
        exact ⟨rfl, rfl⟩
      · simp only [ne_eq, h, not_false_eq_true, and_self, if_true, g3]
        have hc : ((x : Int) != 2143289344) = true := by simp; omega
        clear h
        go_enter Tryd.func59, Tryd.ntmps59
        go_wp2_with fail
        refine a1.mono ?_
        rintro e w' ⟨rfl, rfl⟩
        go_wp2_with fail
        refine (a2 _).mono ?_
        rintro e w' ⟨rfl, rfl⟩
        go_wp2
        go_ret3
        exact ⟨rfl, rfl⟩

set_option maxRecDepth 100000 in
set_option maxHeartbeats 1000000 in
theorem getText_any (s : ByteArray) (p : Nat) (m : Int) (w : World) (hp : p ≤ s.size) (hs : s.size ≤ 4611686018427387904) (hm : -9223372036854775808 ≤ m ∧ m ≤ 9223372036854775807) :
    Calls Tryd.prog 61 #[.string s, .int .i64 p, .int .i64 m] w fun e w' => e = .returned (g3 (.string ⟨#[]⟩) .string p (tG s p m)) ∧ w = w' := by
  have a1 := getUpto_any s p m w hp (by omega) hm
  unfold tG
  cases hu : upG s p m with
  | error e =>
    rw [hu] at a1
    simp only [g3] at a1 ⊢
    have he : ((e : Int) != 0) = true := by rcases upG_err hu with rfl | rfl | rfl <;> rfl
    have he2 : ¬ (e : Int) = 0 := by rcases upG_err hu with rfl | rfl | rfl <;> omega
    clear hu
    go_enter Tryd.func61, Tryd.ntmps61
    go_wp2_with fail
    refine a1.mono ?_
    rintro e w' ⟨rfl, rfl⟩
    go_wp2
    go_ret3
    exact ⟨rfl, rfl⟩
  | ok y =>
    obtain ⟨n, q⟩ := y
    obtain ⟨hn, hpq, hq, _⟩ := upG_ok hu
    rw [hu] at a1
    simp only [g3] at a1
    simp only []
    clear hu
    by_cases h : s.size - q < n
    · simp only [if_pos h, g3]
      have h' : (s.size : Int) - (q : Int) < (n : Int) := by omega
      go_enter Tryd.func61, Tryd.ntmps61
      go_wp2_with fail
      refine a1.mono ?_
      rintro e w' ⟨rfl, rfl⟩
      go_wp2
      go_ret3
      exact ⟨rfl, rfl⟩
    · simp only [if_neg h, g3]
      have h' : ¬ (s.size : Int) - (q : Int) < (n : Int) := by omega
      have hqn : (q : Int) + (n : Int) ≤ (s.size : Int) := by omega
      go_enter Tryd.func61, Tryd.ntmps61
      go_wp2_with fail
      refine a1.mono ?_
      rintro e w' ⟨rfl, rfl⟩
      go_wp2
      go_ret3
      exact ⟨rfl, rfl⟩
end Go.Proofs.YtnodjcapclkmhaaDoor
