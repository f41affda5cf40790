/- The document's answer to Best: the same function. -/
import Derived.Test.YtjjacehacfbolaaChoice
namespace Go.Proofs.Ytjjacehacfbolaa
open Go.RowKit

theorem rgood_any (b : Nat) (w : World) : Calls Try.prog 19 #[.int .u32 b] w fun e w' => e = .returned (.bool (Rnd.good b)) ∧ w = w' := by
  by_cases h1 : b ≤ 1065353216
  · have e : Rnd.good b = true := Rnd.good_le h1
    rw [e]; clear e
    have h2 : ((b : Int) ≤ 1065353216) := by omega
    go_enter Try.func19, Try.ntmps19
    go_wp2
    go_ret
    exact ⟨rfl, rfl⟩
  · by_cases h2 : b = 2147483648
    · subst h2
      go_enter Try.func19, Try.ntmps19
      go_wp2
      go_ret
      exact ⟨rfl, rfl⟩
    · have e : Rnd.good b = false := by unfold Rnd.good; simp [h1, h2]
      rw [e]; clear e
      have h3 : ¬ ((b : Int) ≤ 1065353216) := by omega
      have h4 : ((b : Int) == 2147483648) = false := by simp; omega
      have h5 : (b == 2147483648) = false := by simp; omega
      clear h2 h1
      go_enter Try.func19, Try.ntmps19
      go_wp2
      go_ret
      exact ⟨rfl, rfl⟩

theorem rv_eq (b : Nat) : rv b = if Rnd.good b = true ∧ b ≠ 2147483648 then b else 0 := by
  unfold rv vb
  cases hg : Rnd.good b
  · simp; decide
  · by_cases h : b = 2147483648
    · subst h; decide
    · rw [if_pos rfl, if_pos ⟨rfl, h⟩]
      unfold Rnd.good at hg; simp [h] at hg
      unfold Rnd.rung; omega

theorem value_any (b : Nat) (w : World) : Calls Try.prog 18 #[.int .u32 b] w fun e w' => e = .returned (.int .u32 (rv b)) ∧ w = w' := by
  have e := rv_eq b
  cases hg : Rnd.good b
  · rw [hg, if_neg (by simp)] at e
    rw [e]; clear e
    go_enter Try.func18, Try.ntmps18
    go_wp2_with (go_at_call 19; refine (rgood_any _ _).mono ?_; rintro e w' ⟨rfl, rfl⟩)
    go_ret
    exact ⟨rfl, rfl⟩
  · by_cases h : b = 2147483648
    · subst h
      have e2 : rv 2147483648 = 0 := by decide
      rw [e2]; clear e e2
      go_enter Try.func18, Try.ntmps18
      go_wp2_with (go_at_call 19; refine (rgood_any 2147483648 _).mono ?_; rintro e w' ⟨rfl, rfl⟩)
      go_ret
      exact ⟨rfl, rfl⟩
    · rw [hg, if_pos ⟨rfl, h⟩] at e
      rw [e]; clear e
      have h4 : ((b : Int) == 2147483648) = false := by simp; omega
      have h5 : (b == 2147483648) = false := by simp; omega
      clear h
      go_enter Try.func18, Try.ntmps18
      go_wp2_with (go_at_call 19; refine (rgood_any _ _).mono ?_; rintro e w' ⟨rfl, rfl⟩)
      go_ret
      exact ⟨rfl, rfl⟩
theorem value_same (b : Nat) (w : World) : Calls Try.prog 18 #[.int .u32 b] w fun e w' => e = .returned (.int .u32 (rv b)) ∧ w' = w :=
  (value_any b w).mono fun _ _ h => ⟨h.1, h.2.symm⟩

theorem quiet_more0 {w wr : World} {n : Nat} (h : Hid (∃ d : Nat, wr = w.drewN d)) : Hid (∃ d : Nat, wr.drewN n = w.drewN d) := by
  obtain ⟨d, rfl⟩ := h.out
  exact ⟨d + n, World.drewN_drewN ..⟩

set_option maxHeartbeats 2000000 in
theorem rbest_any (A : Option Addr) (n ca : Nat) (B : Option Addr) (m cb : Nat) (z : Nat → Nat) (may : Nat → Bool) (w : World) (hA : Sl w A n (fun i => .int .u32 (z i))) (hB : Sl w B m (fun i => .bool (may i)))
    (hn : n ≤ 9223372036854775806) (hm : m ≤ 9223372036854775806) :
    Calls Try.prog 14 #[.slice A n ca, .slice B m cb] w fun e w' => e = .returned (.int .i64 (bestR z may (min n m))) ∧ ∃ d, w' = w.drewN d := by
  have HA := Lib.hid hA; clear hA
  have HB := Lib.hid hB; clear hB
  go_enter Try.func14, Try.ntmps14
  go_wp2
  go_loopw [5, 6] (fun b i wr => ∃ k : Nat, k ≤ min n m ∧ i = .int .i64 k ∧ b = .int .i64 (bestR z may k) ∧ Hid (∃ d : Nat, wr = w.drewN d)) (fun _ i _ => min n m - (intOf i).toNat)
  case atStart => exact ⟨0, Nat.zero_le _, rfl, rfl, 0, rfl⟩
  case round =>
    obtain ⟨k, hk, rfl, rfl, hd⟩ := hrel
    have hcell : Hid (∀ a, wr.cell? a = w.cell? a) := by
      obtain ⟨d, rfl⟩ := hd.out
      exact fun _ => rfl
    by_cases hlt : k < min n m
    · have k1 : k < n := by omega
      have k2 : k < m := by omega
      obtain ⟨g1, o1, rfl, _, hc1⟩ := HA.out (by omega)
      have c1 : wr.cell? ⟨g1, o1 + k, none⟩ = some (.int .u32 (z k)) := (hcell.out _).trans (hc1 k k1)
      obtain ⟨g2, o2, rfl, _, hc2⟩ := HB.out (by omega)
      have c2 : wr.cell? ⟨g2, o2 + k, none⟩ = some (.bool (may k)) := (hcell.out _).trans (hc2 k k2)
      have HC1 := Lib.hid hc1; clear hc1
      have HC2 := Lib.hid hc2; clear hc2
      have i1 : (0 : Int) ≤ (k : Int) := by omega
      have i2 : (k : Int) < (n : Int) := by omega
      have i3 : (k : Int) < (m : Int) := by omega
      have T := Lib.hid (@next_take z may k)
      have L := Lib.hid (@next_leave z may k)
      have M := Lib.hid (show mostR z may k = if bestR z may k < 0 then 0 else vb (z (bestR z may k).toNat) from rfl)
      cases hmk : may k
      · rw [hmk] at c2
        have E := Lib.hid (L.out (.inl hmk)); clear T L M hmk
        generalize bestR z may k = b at *
        go_wp2
        go_quiet (fail)
        go_wp2
        go_roundw
        case rel => exact ⟨k + 1, by omega, by go_num, by rw [E.out.1], quiet_more0 hd⟩
        case measure => simp [intOf]; omega
      · rw [hmk] at c2
        rcases best_spec z may k with ⟨e, _⟩ | ⟨j, e, hj, _, _⟩
        · have E := Lib.hid (T.out hmk (.inl (by rw [e]; decide))); clear T L M hmk
          rw [e]; clear e
          go_wp2
          go_quiet (fail)
          go_wp2
          go_roundw
          case rel => exact ⟨k + 1, by omega, by go_num, by rw [E.out.1], quiet_more0 hd⟩
          case measure => simp [intOf]; omega
        · have c3 : wr.cell? ⟨g1, o1 + j, none⟩ = some (.int .u32 (z j)) := (hcell.out _).trans (HC1.out j (by omega))
          have m1 := M.out
          rw [e, if_neg (by omega), Int.toNat_natCast] at m1
          by_cases hgt : rv (z j) < rv (z k)
          · have E := Lib.hid (T.out hmk (.inr (by rw [m1]; exact hgt))); clear T L M hmk m1
            rw [e]; clear e
            have j0 : (0 : Int) ≤ (j : Int) := by omega
            have j1 : (j : Int) < (n : Int) := by omega
            have jn : decide ((j : Int) < 0) = false := by simp
            have hG : decide (rv (z j) < rv (z k)) = true := by simpa using hgt
            clear hgt
            go_wp2
            go_quiet ((go_at_call 18; exact Calls.quiet_of_same (value_same _ _)))
            go_wp2
            go_roundw
            case rel => exact ⟨k + 1, by omega, by go_num, by rw [E.out.1], quiet_more0 hd⟩
            case measure => simp [intOf]; omega
          · have E := Lib.hid (L.out (.inr ⟨by rw [e]; omega, by rw [m1]; exact Nat.le_of_not_lt hgt⟩)); clear T L M hmk m1
            rw [e] at E ⊢; clear e
            have j0 : (0 : Int) ≤ (j : Int) := by omega
            have j1 : (j : Int) < (n : Int) := by omega
            have jn : decide ((j : Int) < 0) = false := by simp
            have hG : decide (rv (z j) < rv (z k)) = false := by simpa using hgt
            clear hgt
            go_wp2
            go_quiet ((go_at_call 18; exact Calls.quiet_of_same (value_same _ _)))
            go_wp2
            go_roundw
            case rel => exact ⟨k + 1, by omega, by go_num, by rw [E.out.1], quiet_more0 hd⟩
            case measure => simp [intOf]; omega
    · obtain rfl : k = min n m := by omega
      by_cases hnm : n ≤ m
      · have e : min n m = n := by omega
        rw [e] at hlt ⊢
        have E := Lib.hid e; clear e
        go_wp2
        go_ret
        exact ⟨by rw [E.out]; rfl, hd.out⟩
      · have e : min n m = m := by omega
        rw [e] at hlt ⊢
        have E := Lib.hid e; clear e
        go_wp2
        go_ret
        exact ⟨by rw [E.out]; rfl, hd.out⟩
end Go.Proofs.Ytjjacehacfbolaa
