/- remitlaw04.MoneySplits where money.Split divides: walked. -/
import Derived.Test.YtkndmjhiijgmbaaGreatDoorSplitB
import Derived.Deep.CutBlock
import Derived.Test.YtkndmjhiijgmbaaGreatDoorDivF
namespace Go.Proofs.YtkndmjhiijgmbaaGreatDoor
open Go.RowKit

theorem Ints.below {w w' : World} {A : Option Addr} {n : Nat} {f : Nat → Int} (h : Ints w A n f) (hb : Below w.heap.size w w') : Ints w' A n f := by
  rcases h with h | ⟨b, o, rfl, h1, h2⟩
  · exact .inl h
  · exact .inr ⟨b, o, rfl, Nat.lt_of_lt_of_le h1 hb.size, fun i hi => (hb.cell (p := ⟨b, o + i, none⟩) h1).trans (h2 i hi)⟩

set_option maxRecDepth 100000 in
set_option maxHeartbeats 4000000 in
theorem splits_neg (B : Nat → Addr) (a : Int) (A : Option Addr) (n c : Nat) (z : Nat → Int) (w : World) (hE : Env w B) (hfix : Calls Tryz.prog 6 #[] w fun e w' => e = .returned (.bool true) ∧ Below w.heap.size w w')
    (hA : Ints w A n z) (hn : n ≤ 17592186044416) (ha : a < 0) :
    Calls Tryz.prog 3 #[.int .i64 a, .slice A n c] w fun e w' => e = .returned (.bool true) ∧ Below w.heap.size w w' := by
  have HE := Lib.hid hE; have HA := Lib.hid hA; have HN := Lib.hid ha
  have hn2 : (n : Int) ≤ 17592186044416 := by omega
  have d0 : decide (0 ≤ a) = false := decide_eq_false (by omega)
  have d1 : decide (a < 0) = true := decide_eq_true (by omega)
  clear hE hA ha
  go_enter Tryz.func3, Tryz.ntmps3
  go_wp2_with fail
  refine hfix.mono ?_
  clear hfix
  rintro e w1 ⟨rfl, hb1⟩
  have HB1 := Lib.hid hb1
  have a1 := split_neg B A n c a w1 (HE.out.below hb1) HN.out
  have HA1 := Lib.hid (HA.out.below hb1)
  clear hb1
  go_wp2_with fail
  refine a1.mono ?_
  clear a1
  rintro e w2 ⟨rfl, hb2⟩
  have HB2 := Lib.hid (HB1.out.trans (hb2.mono HB1.out.size))
  have HA2 := Lib.hid (HA1.out.below hb2)
  clear hb2 HB1 HA1
  go_wp2_with fail
  go_loop [32, 7, 8, 10] (fun vi vs vg _ => ∃ (i : Nat) (s : Int), vi = .int .i64 i ∧ i ≤ n ∧ vs = .int .u64 s ∧ vg = .bool false) (fun vi _ _ _ => n - (intOf vi).toNat)
  case atStart => exact ⟨0, 0, rfl, Nat.zero_le _, rfl, rfl⟩
  case round =>
    obtain ⟨i, s, rfl, hi, rfl, rfl⟩ := hrel
    rcases Nat.lt_or_ge i n with h | h
    · rcases HA2.out with h0 | ⟨b, o, rfl, hb, hc⟩
      · omega
      · have hci := hc i h
        have hiI : (i : Int) < n := by omega
        clear hc hb
        generalize z i = x at *
        go_wp2
        go_round
        case rel => exact ⟨i + 1, _, by go_num, h, rfl, rfl⟩
        case measure => simp [intOf]; omega
    · obtain rfl : n = i := by omega
      have a2 := num_any B w2 (HE.out.below HB2.out) 9 (by decide)
      clear h hi
      go_wp2_with fail
      refine a2.mono ?_
      clear a2
      rintro e w3 ⟨rfl, hb3⟩
      have HB3 := Lib.hid (HB2.out.trans (hb3.mono HB2.out.size))
      clear hb3
      go_wp2
      go_ret
      exact ⟨rfl, HB3.out⟩
set_option maxRecDepth 100000 in
set_option maxHeartbeats 4000000 in
theorem splits_bad (B : Nat → Addr) (a : Int) (A : Option Addr) (n c : Nat) (z : Nat → Int) (w : World) (hE : Env w B) (hfix : Calls Tryz.prog 6 #[] w fun e w' => e = .returned (.bool true) ∧ Below w.heap.size w w')
    (hA : Ints w A n z) (hn : n ≤ 17592186044416) (ha : 0 ≤ a) (hbad : ¬ (okTo z n = true ∧ nsum (wz z) n ≠ 0)) (hsum : ∀ i, i ≤ n → okTo z i = true → nsum (wz z) i ≤ 9223372036854775807) :
    Calls Tryz.prog 3 #[.int .i64 a, .slice A n c] w fun e w' => e = .returned (.bool true) ∧ Below w.heap.size w w' := by
  have HE := Lib.hid hE; have HA := Lib.hid hA; have HN := Lib.hid ha; have HBAD := Lib.hid hbad; have HSUM := Lib.hid hsum
  have HNN := Lib.hid hn
  have hn2 : (n : Int) ≤ 17592186044416 := by omega
  have d0 : decide (0 ≤ a) = true := decide_eq_true (by omega)
  have d1 : decide (a < 0) = false := decide_eq_false (by omega)
  clear hE hA ha hbad hsum hn
  go_enter Tryz.func3, Tryz.ntmps3
  go_wp2_with fail
  refine hfix.mono ?_
  clear hfix
  rintro e w1 ⟨rfl, hb1⟩
  have HB1 := Lib.hid hb1
  have a1 := split_bad B A n c a z w1 (HE.out.below hb1) HN.out (HA.out.below hb1) HNN.out HBAD.out HSUM.out
  have HA1 := Lib.hid (HA.out.below hb1)
  clear hb1
  go_wp2_with fail
  refine a1.mono ?_
  clear a1
  rintro e w2 ⟨rfl, hb2⟩
  have HB2 := Lib.hid (HB1.out.trans (hb2.mono HB1.out.size))
  have HA2 := Lib.hid (HA1.out.below hb2)
  clear hb2 HB1 HA1
  go_wp2_with fail
  go_loop [32, 7, 8, 10] (fun vi vs vg _ => ∃ (i : Nat) (s : Int) (g : Bool), vi = .int .i64 i ∧ i ≤ n ∧ vs = .int .u64 s ∧ vg = .bool g ∧ Hid (g = okTo z i ∧ (g = true → s = nsum (wz z) i))) (fun vi _ _ _ => n - (intOf vi).toNat)
  case atStart => exact ⟨0, 0, true, rfl, Nat.zero_le _, rfl, rfl, Lib.hid ⟨rfl, fun _ => rfl⟩⟩
  case round =>
    obtain ⟨i, s, g, rfl, hi, rfl, rfl, hg⟩ := hrel
    rcases Nat.lt_or_ge i n with h | h
    · rcases HA2.out with h0 | ⟨b, o, rfl, hb, hc⟩
      · omega
      · have hci := hc i h
        have hiI : (i : Int) < n := by omega
        clear hc hb
        cases g with
        | false =>
          have HG := Lib.hid (show okTo z (i + 1) = false by rw [okTo, ← hg.out.1]; rfl)
          clear hg
          generalize z i = x at *
          go_wp2
          go_round
          case rel => exact ⟨i + 1, _, false, by go_num, h, rfl, rfl, Lib.hid ⟨HG.out.symm, fun h => by cases h⟩⟩
          case measure => simp [intOf]; omega
        | true =>
          obtain ⟨hg1, hg2⟩ := hg.out
          have hs := hg2 rfl
          subst hs
          by_cases hz : okW (z i)
          · have hok2 : okTo z (i + 1) = true := by rw [okTo, ← hg1]; simpa using hz
            have hsu := HSUM.out (i + 1) (by omega) hok2
            have HS := Lib.hid (nsum_succ (wz z) i)
            rw [nsum_succ] at hsu
            have hw := wz_at hok2 (Nat.lt_succ_self i)
            rw [hw.1] at hci
            have hwi := hw.2
            have HOK := Lib.hid hok2
            clear hz hok2 hw hg hg1 hg2
            generalize wz z i = x at *
            generalize nsum (wz z) i = t at *
            have d2 : decide (0 ≤ (x : Int)) = true := decide_eq_true (by omega)
            have d3 : decide ((x : Int) ≤ 1000000) = true := decide_eq_true (by omega)
            have d4 : decide (x ≤ 1000000) = true := decide_eq_true (by omega)
            have e1 : IntKind.u64.wrap (x : Int) = (x : Int) := by rw [IntKind.wrap_u64]; omega
            have e2 : IntKind.u64.wrap ((t : Int) + (x : Int)) = ((t + x : Nat) : Int) := by rw [IntKind.wrap_u64]; omega
            clear hsu hwi
            go_wp2
            go_round
            case rel => exact ⟨i + 1, _, true, by go_num, h, rfl, rfl, Lib.hid ⟨HOK.out.symm, fun _ => by rw [HS.out]; omega⟩⟩
            case measure => simp [intOf]; omega
          · have HG := Lib.hid (show okTo z (i + 1) = false by rw [okTo, ← hg1]; simpa using hz)
            unfold okW at hz
            clear hg hg1 hg2
            generalize z i = x at *
            generalize nsum (wz z) i = t at *
            by_cases hx : 0 ≤ x
            · have d2 : decide (0 ≤ x) = true := decide_eq_true hx
              have d3 : decide (x ≤ 1000000) = false := decide_eq_false (by omega)
              clear hz hx
              go_wp2
              go_round
              case rel => exact ⟨i + 1, _, false, by go_num, h, rfl, rfl, Lib.hid ⟨HG.out.symm, fun h => by cases h⟩⟩
              case measure => simp [intOf]; omega
            · have d2 : decide (0 ≤ x) = false := decide_eq_false hx
              clear hz hx
              go_wp2
              go_round
              case rel => exact ⟨i + 1, _, false, by go_num, h, rfl, rfl, Lib.hid ⟨HG.out.symm, fun h => by cases h⟩⟩
              case measure => simp [intOf]; omega
    · obtain rfl : n = i := by omega
      have a2 := num_any B w2 (HE.out.below HB2.out) 6 (by decide)
      have hs : g = true → s = 0 := fun e => by
        rw [hg.out.2 e]
        rcases Nat.eq_zero_or_pos (nsum (wz z) n) with h' | h'
        · rw [h']; rfl
        · exact absurd ⟨by rw [← hg.out.1]; exact e, by omega⟩ HBAD.out
      clear h hi hg
      cases g with
      | false =>
        clear hs
        go_wp2_with fail
        refine a2.mono ?_
        clear a2
        rintro e w3 ⟨rfl, hb3⟩
        have HB3 := Lib.hid (HB2.out.trans (hb3.mono HB2.out.size))
        clear hb3
        go_wp2
        go_ret
        exact ⟨rfl, HB3.out⟩
      | true =>
        obtain rfl := hs rfl
        clear hs
        go_wp2_with fail
        refine a2.mono ?_
        clear a2
        rintro e w3 ⟨rfl, hb3⟩
        have HB3 := Lib.hid (HB2.out.trans (hb3.mono HB2.out.size))
        clear hb3
        go_wp2
        go_ret
        exact ⟨rfl, HB3.out⟩
end Go.Proofs.YtkndmjhiijgmbaaGreatDoor
namespace Go.Proofs.YtkndmjhiijgmbaaGreatDoor
open Go.RowKit

theorem mul64_any (x y : Nat) (hx : x < 18446744073709551616) (hy : y < 18446744073709551616) (w : World) : Calls Tryz.prog 9 #[.int .u64 x, .int .u64 y] w fun e w' => e = .returned (.tuple #[.int .u64 ((x * y / 18446744073709551616 : Nat) : Int), .int .u64 ((x * y % 18446744073709551616 : Nat) : Int)]) ∧ w = w' :=
  (Tryz.bits_Mul64 x y hx hy w).mono fun _ _ h => ⟨h.1, h.2.symm⟩
/-- The exact share, as the law reckons it. -/
theorem exact_any {a x T : Nat} (ha : a ≤ 9223372036854775807) (hx : x ≤ T) (h0 : 0 < T) (h1 : T ≤ 9223372036854775807) :
    ∃ hi lo : Nat, (∀ w, Calls Tryz.prog 9 #[.int .u64 a, .int .u64 x] w fun e w' => e = .returned (.tuple #[.int .u64 hi, .int .u64 lo]) ∧ w = w') ∧
      (∀ w, Calls Tryz.prog 10 #[.int .u64 hi, .int .u64 lo, .int .u64 T] w fun e w' => e = .returned (.tuple #[.int .u64 ((a * x / T : Nat) : Int), .int .u64 ((a * x % T : Nat) : Int)]) ∧ ∃ k, w' = w.drewN k) := by
  refine ⟨a * x / 18446744073709551616, a * x % 18446744073709551616, fun w => mul64_any a x (by omega) (by omega) w, fun w => ?_⟩
  have hlt : a * x / 18446744073709551616 < T := by
    refine (Nat.div_lt_iff_lt_mul (by decide)).2 ?_
    have e1 : a * x ≤ 9223372036854775807 * T := Nat.mul_le_mul ha hx
    omega
  have := div64_any (a * x / 18446744073709551616) (a * x % 18446744073709551616) T hlt (Nat.mod_lt _ (by decide)) (by omega) w
  rw [show a * x / 18446744073709551616 * 18446744073709551616 + a * x % 18446744073709551616 = a * x by rw [Nat.mul_comm]; exact Nat.div_add_mod _ _] at this
  exact this
theorem share_at_most {a T n : Nat} {ws ord : Nat → Nat} (h : IsOrd (rf a T ws) n ord) (hT : nsum ws n = T) (h0 : 0 < T) {i : Nat} (hi : i < n) : shareN a T n ws ord i ≤ a := by
  have := share_prefix h hT h0 hi
  omega

set_option maxRecDepth 100000 in
set_option maxHeartbeats 10000000 in
theorem splits_good (B : Nat → Addr) (a : Nat) (A : Option Addr) (n c T : Nat) (ws : Nat → Nat) (w : World) (hE : Env w B) (hfix : Calls Tryz.prog 6 #[] w fun e w' => e = .returned (.bool true) ∧ Below w.heap.size w w')
    (hA : Nums w A n ws) (hw : ∀ i, i < n → ws i ≤ 1000000) (hn : n ≤ 17592186044416) (ha : a ≤ 9223372036854775807) (hT : nsum ws n = T) (hT0 : 0 < T) (hT1 : T ≤ 9223372036854775807)
    (hsplit : ∀ w', Below w.heap.size w w' → Calls Tryz.prog 7 #[.int .i64 a, .slice A n c] w' (SplitOut n a T ws w')) :
    Calls Tryz.prog 3 #[.int .i64 a, .slice A n c] w fun e w' => e = .returned (.bool true) ∧ Below w.heap.size w w' := by
  have HE := Lib.hid hE; have HA := Lib.hid hA; have HW := Lib.hid hw; have HT := Lib.hid hT; have HSP := Lib.hid hsplit
  have HSUM := Lib.hid (show ∀ i, i ≤ n → nsum ws i ≤ T from fun i hi => by rw [← hT]; exact nsum_mono ws n hi)
  have HAL := Lib.hid ha; have HT0 := Lib.hid hT0; have HT1 := Lib.hid hT1
  have hn2 : (n : Int) ≤ 17592186044416 := by omega
  have d0 : decide (0 ≤ (a : Int)) = true := decide_eq_true (by omega)
  have d1 : decide ((a : Int) < 0) = false := decide_eq_false (by omega)
  have d2 : ((T : Int) == 0) = false := by simp; omega
  have ea : IntKind.u64.wrap (a : Int) = (a : Int) := by rw [IntKind.wrap_u64]; omega
  clear hE hA hw hT hsplit ha hT0 hT1
  go_enter Tryz.func3, Tryz.ntmps3
  go_wp2_with fail
  refine hfix.mono ?_
  clear hfix
  rintro e w1 ⟨rfl, hb1⟩
  have HB1 := Lib.hid hb1
  have a1 := HSP.out w1 hb1
  clear hb1 HSP
  go_wp2_with fail
  refine a1.mono ?_
  clear a1
  rintro e w2 ⟨ord, ho, bS, rfl, hbS, hrow, hb2⟩
  have HO := Lib.hid ho
  have HB2 := Lib.hid (HB1.out.trans (hb2.mono HB1.out.size))
  have HROW := Lib.hid (show w2.rowIs bS 2 n (fun i => .int .i64 (shareN a T n ws ord i)) from hrow)
  have HA2 := Lib.hid (show Nums w2 A n ws from by
    rcases HA.out with h | ⟨b, o, rfl, h1, h2⟩
    · exact .inl h
    · exact .inr ⟨b, o, rfl, Nat.lt_of_lt_of_le h1 HB2.out.size, fun i hi => (HB2.out.cell (p := ⟨b, o + i, none⟩) h1).trans (h2 i hi)⟩)
  clear ho hbS hrow hb2 HB1 HA HE
  go_wp2_with fail
  go_loop [32, 7, 8, 10] (fun vi vs vg _ => ∃ i : Nat, vi = .int .i64 i ∧ i ≤ n ∧ vs = .int .u64 (nsum ws i) ∧ vg = .bool true) (fun vi _ _ _ => n - (intOf vi).toNat)
  case atStart => exact ⟨0, rfl, Nat.zero_le _, rfl, rfl⟩
  case round =>
    obtain ⟨i, rfl, hi, rfl, rfl⟩ := hrel
    rcases Nat.lt_or_ge i n with h | h
    · rcases HA2.out with h0 | ⟨b, o, rfl, hb, hc⟩
      · omega
      · have hci := hc i h
        have hiI : (i : Int) < n := by omega
        have hwi := HW.out i h
        have HS := Lib.hid (nsum_succ ws i)
        have hsu := HSUM.out (i + 1) (by omega)
        have hT1 := HT1.out
        rw [nsum_succ] at hsu
        clear hc hb
        generalize ws i = x at *
        generalize nsum ws i = t at *
        have e1 : decide ((x : Int) ≤ 1000000) = true := decide_eq_true (by omega)
        have e2 : decide (x ≤ 1000000) = true := decide_eq_true (by omega)
        have e3 : IntKind.u64.wrap (x : Int) = (x : Int) := by rw [IntKind.wrap_u64]; omega
        have e4 : IntKind.u64.wrap ((t : Int) + (x : Int)) = ((t + x : Nat) : Int) := by rw [IntKind.wrap_u64]; omega
        have e5 : decide (0 ≤ (x : Int)) = true := decide_eq_true (by omega)
        clear hsu hwi hT1
        go_wp2
        go_round
        case rel => exact ⟨i + 1, by go_num, h, by rw [HS.out]; exact congrArg (Value.int .u64) (by omega), rfl⟩
        case measure => simp [intOf]; omega
    · obtain rfl : n = i := by omega
      rw [HT.out]
      clear h hi
      go_wp2_with fail
      go_loopw [86, 11, 12, 13, 14, 15, 16, 17, 18, 19] (fun vi vl _ _ _ _ _ _ _ _ wr => ∃ i k : Nat, vi = .int .i64 i ∧ i ≤ n ∧ vl = .int .i64 ((a - nsum (shareN a T n ws ord) i : Nat) : Int) ∧ wr = w2.drewN k) (fun vi _ _ _ _ _ _ _ _ _ _ => n - (intOf vi).toNat)
      case atStart => exact ⟨0, 0, rfl, Nat.zero_le _, rfl, rfl⟩
      case round =>
        obtain ⟨i, k, rfl, hi, rfl, rfl⟩ := hrel
        rcases Nat.lt_or_ge i n with h | h
        · rcases HA2.out with h0 | ⟨b, o, rfl, hb, hc⟩
          · omega
          · have hci := hc i h
            have HC := Lib.hid hc
            have hsc := HROW.out.cell h
            have hiI : (i : Int) < n := by omega
            have HWT := Lib.hid (show ws i ≤ T by have := HSUM.out (i + 1) h; rw [nsum_succ] at this; omega)
            obtain ⟨hi64, lo64, m1, m2⟩ := exact_any (x := ws i) HAL.out HWT.out HT0.out HT1.out
            have M1 := Lib.hid m1; have M2 := Lib.hid m2
            have e3 : IntKind.u64.wrap (ws i : Int) = (ws i : Int) := by have := HWT.out; have := HT1.out; rw [IntKind.wrap_u64]; omega
            clear hc hb m1 m2
            go_wp2_with fail
            refine (M1.out _).mono ?_
            clear M1
            rintro e w' ⟨rfl, rfl⟩
            go_wp2_with fail
            refine (M2.out _).mono ?_
            clear M2
            rintro e w' ⟨rfl, k2, rfl⟩
            have hm := share_more HO.out HT.out HT0.out i
            have hp := share_prefix HO.out HT.out HT0.out h
            have HNX := Lib.hid (nsum_succ (shareN a T n ws ord) i)
            have HMO := Lib.hid (show ∀ j, j < i → (ws j < ws i → shareN a T n ws ord j ≤ shareN a T n ws ord i) ∧ (ws i ≤ ws j → shareN a T n ws ord i ≤ shareN a T n ws ord j) from fun j hj =>
              ⟨fun hw => share_mono HO.out HT.out HT0.out h (.inl hw), fun hw => share_mono HO.out HT.out HT0.out (by omega) (by omega)⟩)
            have hm : shareN a T n ws ord i = a * ws i / T ∨ shareN a T n ws ord i = a * ws i / T + 1 ∧ a * ws i % T ≠ 0 := hm
            have hal := HAL.out
            generalize hsn : shareN a T n ws ord i = sh at *
            generalize a * ws i / T = q at *
            generalize a * ws i % T = r at *
            have HWI := Lib.hid (show ws i ≤ T from HWT.out)
            clear HWT e3
            generalize ws i = x at *
            obtain ⟨L, hL⟩ : ∃ L, L = a - nsum (shareN a T n ws ord) i := ⟨_, rfl⟩
            have hLs : sh ≤ L := by omega
            have hLa : L ≤ 9223372036854775807 := by omega
            have e6 : IntKind.i64.wrap (q : Int) = (q : Int) := by rw [IntKind.wrap_i64]; omega
            have e9 : IntKind.i64.wrap ((L : Int) - (sh : Int)) = ((L - sh : Nat) : Int) := by rw [IntKind.wrap_i64]; omega
            have e10 : ((L : Int) - (sh : Int)) = ((L - sh : Nat) : Int) := by omega
            have f1 : decide (L < sh) = false := decide_eq_false (by omega)
            have f2 : decide ((sh : Int) < 0) = false := decide_eq_false (by omega)
            have HLN := Lib.hid (show L - sh = a - nsum (shareN a T n ws ord) (i + 1) by rw [HNX.out]; omega)
            have hmc : ∃ m : Nat, m ≤ 1 ∧ IntKind.i64.wrap ((sh : Int) - (q : Int)) = (m : Int) ∧ (sh : Int) - (q : Int) = (m : Int) ∧ (m = 1 → r ≠ 0) := by
              rcases hm with h' | ⟨h', h''⟩
              · exact ⟨0, by decide, by rw [IntKind.wrap_i64]; omega, by omega, fun h => by omega⟩
              · exact ⟨1, by decide, by rw [IntKind.wrap_i64]; omega, by omega, fun _ => h''⟩
            obtain ⟨m, hm1, e7, e8, hmr⟩ := hmc
            rw [← hL]
            have e11 : wrap64 ((L - sh : Nat) : Int) = ((L - sh : Nat) : Int) := by unfold wrap64; omega
            generalize hLs2 : L - sh = L2 at *
            have HI := Lib.hid (show i < 17592186044416 by omega)
            have hsn := Lib.hid hsn
            clear hm hp hal hL hLs hLa hLs2
            go_upto_region 25 with fail
            go_cut [141] from 113 to 141 (fun v wx => v = .bool false ∧ w2.drewN (k + k2) = wx)
            case first =>
              have hmm : m = 0 ∨ m = 1 := by omega
              clear hm1
              rcases hmm with rfl | rfl
              · clear hmr
                go_wp2
                go_meet
                exact ⟨rfl, rfl⟩
              · have f3 : ((r : Int) == 0) = false := by simpa using hmr rfl
                clear hmr
                go_wp2
                go_meet
                exact ⟨rfl, rfl⟩
            case rest =>
              obtain ⟨rfl, rfl⟩ := hcut
              clear hmr hm1 e7 e8 f1 f2 e6
              go_wp2_with fail
              go_loopw [19] (fun vj wr => ∃ j k : Nat, vj = .int .i64 j ∧ j ≤ i ∧ j ≤ 60 ∧ wr = w2.drewN k) (fun vj _ => 60 - (intOf vj).toNat)
              case atStart => exact ⟨0, _, rfl, Nat.zero_le _, Nat.zero_le _, rfl⟩
              case round =>
                obtain ⟨j, k, rfl, hji, hj60, rfl⟩ := hrel
                rcases Nat.lt_or_ge j i with hj | hj
                · rcases Nat.lt_or_ge j 60 with hjj | hjj
                  · have hcj := HC.out j (by omega)
                    have hsj := HROW.out.cell (show j < n by omega)
                    have hmo := HMO.out j hj
                    have g1 : decide (j < i) = true := decide_eq_true hj
                    have g2 : decide ((j : Int) < 60) = true := decide_eq_true (by omega)
                    have hjn : (j : Int) < n := by omega
                    generalize ws j = y at *
                    generalize shareN a T n ws ord j = sj at *
                    rcases Nat.lt_trichotomy y x with hy | hy | hy
                    · have k1 : decide (y < x) = true := decide_eq_true hy
                      have k2 : decide (x < y) = false := decide_eq_false (by omega)
                      have k3 : ((y : Int) == (x : Int)) = false := by simp; omega
                      have k4 : decide (sh < sj) = false := decide_eq_false (by have := hmo.1 hy; omega)
                      clear hy hmo
                      go_wp2_with fail
                      go_quiet (fail)
                      go_wp2
                      go_roundw
                      case rel => exact ⟨j + 1, _, by go_num, hj, hjj, rfl⟩
                      case measure => simp [intOf]; omega
                    · subst hy
                      have k1 : decide (y < y) = false := decide_eq_false (by omega)
                      have k3 : ((y : Int) == (y : Int)) = true := by simp
                      have k4 : decide (sj < sh) = false := decide_eq_false (by have := hmo.2 (Nat.le_refl _); omega)
                      clear hmo
                      go_wp2_with fail
                      go_quiet (fail)
                      go_wp2
                      go_roundw
                      case rel => exact ⟨j + 1, _, by go_num, hj, hjj, rfl⟩
                      case measure => simp [intOf]; omega
                    · have k1 : decide (y < x) = false := decide_eq_false (by omega)
                      have k2 : decide (x < y) = true := decide_eq_true hy
                      have k3 : ((y : Int) == (x : Int)) = false := by simp; omega
                      have k4 : decide (sj < sh) = false := decide_eq_false (by have := hmo.2 (by omega); omega)
                      clear hy hmo
                      go_wp2_with fail
                      go_quiet (fail)
                      go_wp2
                      go_roundw
                      case rel => exact ⟨j + 1, _, by go_num, hj, hjj, rfl⟩
                      case measure => simp [intOf]; omega
                  · have g1 : decide (j < i) = true := decide_eq_true hj
                    have g2 : decide ((j : Int) < 60) = false := decide_eq_false (by omega)
                    go_wp2
                    go_roundw
                    case rel => exact ⟨i + 1, _, by go_num, h, by rw [← HLN.out, e11], rfl⟩
                    case measure => simp [intOf]; omega
                · have g1 : decide (j < i) = false := decide_eq_false (by omega)
                  go_wp2
                  go_roundw
                  case rel => exact ⟨i + 1, _, by go_num, h, by rw [← HLN.out, e11], rfl⟩
                  case measure => simp [intOf]; omega
        · obtain rfl : n = i := by omega
          rw [share_sum HO.out HT.out HT0.out, Nat.sub_self]
          clear h hi
          go_wp2
          go_ret
          exact ⟨rfl, below_drewN HB2.out _⟩
end Go.Proofs.YtkndmjhiijgmbaaGreatDoor
