/- Best: the walk of gauge.Best over any two lists. -/
import Derived.Test.YtjjacehacfbolaaOrder
namespace Go.Proofs.Ytjjacehacfbolaa
open Go.RowKit

/-- A slice value of address A whose first n cells hold f. -/
def Sl (w : World) (A : Option Addr) (n : Nat) (f : Nat → Value) : Prop :=
  0 < n → ∃ g o, A = some ⟨g, o, none⟩ ∧ g < w.heap.size ∧ ∀ i, i < n → w.cell? ⟨g, o + i, none⟩ = some (f i)

/-- The bits by which a health counts. -/
def vb (b : Nat) : Nat := if Rnd.good b = true then b else 0
theorem vb_good (b : Nat) : Rnd.good (vb b) = true := by
  unfold vb; split
  · assumption
  · decide

/-- The best of the first k. -/
def bestR (h : Nat → Nat) (may : Nat → Bool) : Nat → Int
  | 0 => -1
  | k + 1 => if may k = true ∧ (bestR h may k < 0 ∨ Rnd.rung (vb (h (bestR h may k).toNat)) < Rnd.rung (vb (h k))) then (k : Int) else bestR h may k
/-- Its health. -/
def mostR (h : Nat → Nat) (may : Nat → Bool) (k : Nat) : Nat := if bestR h may k < 0 then 0 else vb (h (bestR h may k).toNat)

theorem bestR_lt (h : Nat → Nat) (may : Nat → Bool) (k : Nat) : -1 ≤ bestR h may k ∧ bestR h may k < (k : Int) ∨ bestR h may k = -1 := by
  induction k with
  | zero => exact .inr rfl
  | succ k ih =>
    unfold bestR
    split
    · exact .inl ⟨by omega, by omega⟩
    · rcases ih with h | h
      · exact .inl ⟨h.1, by omega⟩
      · exact .inr h

theorem next_take {h : Nat → Nat} {may : Nat → Bool} {k : Nat} (hm : may k = true) (hc : bestR h may k < 0 ∨ Rnd.rung (mostR h may k) < Rnd.rung (vb (h k))) :
    bestR h may (k + 1) = (k : Int) ∧ mostR h may (k + 1) = vb (h k) := by
  have e : bestR h may (k + 1) = (k : Int) := by
    unfold bestR
    refine if_pos ⟨hm, ?_⟩
    rcases Int.lt_or_le (bestR h may k) 0 with hn | hn
    · exact .inl hn
    · refine .inr ?_
      rcases hc with hc | hc
      · omega
      · unfold mostR at hc; rwa [if_neg (by omega)] at hc
  refine ⟨e, ?_⟩
  unfold mostR
  rw [e, if_neg (by omega)]
  simp
theorem next_leave {h : Nat → Nat} {may : Nat → Bool} {k : Nat} (hc : may k = false ∨ (0 ≤ bestR h may k ∧ Rnd.rung (vb (h k)) ≤ Rnd.rung (mostR h may k))) :
    bestR h may (k + 1) = bestR h may k ∧ mostR h may (k + 1) = mostR h may k := by
  have e : bestR h may (k + 1) = bestR h may k := by
    conv => lhs; unfold bestR
    rw [if_neg]
    rintro ⟨h1, h2⟩
    rcases hc with hc | ⟨h3, h4⟩
    · rw [h1] at hc; cases hc
    · unfold mostR at h4; rw [if_neg (by omega)] at h4
      omega
  refine ⟨e, ?_⟩
  unfold mostR
  rw [e]
theorem mostR_good (h : Nat → Nat) (may : Nat → Bool) (k : Nat) : Rnd.good (mostR h may k) = true := by
  unfold mostR; split
  · decide
  · exact vb_good _
theorem gt_eq {a b : Nat} (ha : Rnd.good a = true) (hb : Rnd.good b = true) : (FloatKind.f32.format.order a b == some .gt) = decide (Rnd.rung b < Rnd.rung a) := by
  rw [ford ha hb]
  rcases Nat.lt_trichotomy (Rnd.rung a) (Rnd.rung b) with h | h | h
  · rw [Nat.compare_eq_lt.2 h]; simp; omega
  · rw [h, Nat.compare_eq_eq.2 rfl]; simp
  · rw [Nat.compare_eq_gt.2 h]; simp; omega

set_option maxHeartbeats 4000000 in
theorem best_any (A : Option Addr) (n ca : Nat) (B : Option Addr) (m cb : Nat) (fh : Nat → Nat) (may : Nat → Bool) (w : World) (hA : Sl w A n (fun i => .float .f32 (fh i))) (hB : Sl w B m (fun i => .bool (may i)))
    (hh : ∀ i, i < n → fh i < 4294967296) (hn : n ≤ 9223372036854775807) (hm : m ≤ 9223372036854775807) :
    Calls Try.prog 11 #[.slice A n ca, .slice B m cb] w fun e w' => e = .returned (.int .i64 (bestR fh may (min n m))) ∧ w = w' := by
  have HH := Lib.hid hh; clear hh
  have HA := Lib.hid hA; clear hA
  have HB := Lib.hid hB; clear hB
  go_enter Try.func11, Try.ntmps11
  go_wp2
  all_goals
    go_loop [5, 6, 14] (fun b q i => ∃ k : Nat, k ≤ min n m ∧ i = .int .i64 k ∧ b = .int .i64 (bestR fh may k) ∧ q = .float .f32 (mostR fh may k)) (fun _ _ i => min n m - (intOf i).toNat)
    case atStart => exact ⟨0, Nat.zero_le _, rfl, rfl, rfl⟩
    case round =>
      obtain ⟨k, hk, rfl, rfl, rfl⟩ := hrel
      by_cases hlt : k < min n m
      · have k1 : k < n := by omega
        have k2 : k < m := by omega
        have h32 := HH.out k k1
        obtain ⟨g1, o1, rfl, _, hc1⟩ := HA.out (by omega)
        have c1 : w.cell? ⟨g1, o1 + k, none⟩ = some (.float .f32 (fh k)) := hc1 k k1
        obtain ⟨g2, o2, rfl, _, hc2⟩ := HB.out (by omega)
        have c2 : w.cell? ⟨g2, o2 + k, none⟩ = some (.bool (may k)) := hc2 k k2
        have HC1 := Lib.hid hc1; clear hc1
        have HC2 := Lib.hid hc2; clear hc2
        have hb := bestR_lt fh may k
        have G0 := gt_eq (vb_good (fh k)) (mostR_good fh may k)
        have T := Lib.hid (@next_take fh may k)
        have L := Lib.hid (@next_leave fh may k)
        have V := Lib.hid (show vb (fh k) = if Rnd.good (fh k) = true then fh k else 0 from rfl)
        generalize bestR fh may k = b at *
        generalize mostR fh may k = q at *
        generalize fh k = x at *
        generalize may k = y at *
        generalize vb x = v at *
        have G := Lib.hid G0; clear G0
        cases hg : Rnd.good x
        · have V2 := V.out
          rw [hg] at V2
          simp only [Bool.false_eq_true, if_false] at V2
          subst V2
          cases y
          · have E := Lib.hid (L.out (.inl rfl)); clear T L
            go_wp2_with (go_at_call 9; refine (good_any _ _ h32).mono ?_; rintro e w' ⟨rfl, rfl⟩)
            go_round
            case rel => exact ⟨k + 1, by omega, by go_num, by rw [E.out.1], by rw [E.out.2]⟩
            case measure => simp [intOf]; omega
          · by_cases hneg : b < 0
            · have E := Lib.hid (T.out rfl (.inl hneg)); clear T L
              go_wp2_with (go_at_call 9; refine (good_any _ _ h32).mono ?_; rintro e w' ⟨rfl, rfl⟩)
              go_round
              case rel => exact ⟨k + 1, by omega, by go_num, by rw [E.out.1], by rw [E.out.2]⟩
              case measure => simp [intOf]; omega
            · by_cases hgt : Rnd.rung q < Rnd.rung 0
              · have E := Lib.hid (T.out rfl (.inr hgt)); clear T L
                have G2 : (FloatKind.f32.format.order 0 q == some .gt) = true := by rw [G.out]; simpa using hgt
                clear hgt
                go_wp2_with (go_at_call 9; refine (good_any _ _ h32).mono ?_; rintro e w' ⟨rfl, rfl⟩)
                go_round
                case rel => exact ⟨k + 1, by omega, by go_num, by rw [E.out.1], by rw [E.out.2]⟩
                case measure => simp [intOf]; omega
              · have E := Lib.hid (L.out (.inr ⟨by omega, by omega⟩)); clear T L
                have G2 : (FloatKind.f32.format.order 0 q == some .gt) = false := by rw [G.out]; simpa using hgt
                clear hgt
                go_wp2_with (go_at_call 9; refine (good_any _ _ h32).mono ?_; rintro e w' ⟨rfl, rfl⟩)
                go_round
                case rel => exact ⟨k + 1, by omega, by go_num, by rw [E.out.1], by rw [E.out.2]⟩
                case measure => simp [intOf]; omega
        · have V2 := V.out
          rw [hg] at V2
          simp only [if_true] at V2
          subst V2
          cases y
          · have E := Lib.hid (L.out (.inl rfl)); clear T L
            go_wp2_with (go_at_call 9; refine (good_any _ _ h32).mono ?_; rintro e w' ⟨rfl, rfl⟩)
            go_round
            case rel => exact ⟨k + 1, by omega, by go_num, by rw [E.out.1], by rw [E.out.2]⟩
            case measure => simp [intOf]; omega
          · by_cases hneg : b < 0
            · have E := Lib.hid (T.out rfl (.inl hneg)); clear T L
              go_wp2_with (go_at_call 9; refine (good_any _ _ h32).mono ?_; rintro e w' ⟨rfl, rfl⟩)
              go_round
              case rel => exact ⟨k + 1, by omega, by go_num, by rw [E.out.1], by rw [E.out.2]⟩
              case measure => simp [intOf]; omega
            · by_cases hgt : Rnd.rung q < Rnd.rung v
              · have E := Lib.hid (T.out rfl (.inr hgt)); clear T L
                have G2 : (FloatKind.f32.format.order v q == some .gt) = true := by rw [G.out]; simpa using hgt
                clear hgt
                go_wp2_with (go_at_call 9; refine (good_any _ _ h32).mono ?_; rintro e w' ⟨rfl, rfl⟩)
                go_round
                case rel => exact ⟨k + 1, by omega, by go_num, by rw [E.out.1], by rw [E.out.2]⟩
                case measure => simp [intOf]; omega
              · have E := Lib.hid (L.out (.inr ⟨by omega, by omega⟩)); clear T L
                have G2 : (FloatKind.f32.format.order v q == some .gt) = false := by rw [G.out]; simpa using hgt
                clear hgt
                go_wp2_with (go_at_call 9; refine (good_any _ _ h32).mono ?_; rintro e w' ⟨rfl, rfl⟩)
                go_round
                case rel => exact ⟨k + 1, by omega, by go_num, by rw [E.out.1], by rw [E.out.2]⟩
                case measure => simp [intOf]; omega
      · obtain rfl : k = min n m := by omega
        go_wp2
        go_ret
        exact ⟨rfl, rfl⟩
end Go.Proofs.Ytjjacehacfbolaa
