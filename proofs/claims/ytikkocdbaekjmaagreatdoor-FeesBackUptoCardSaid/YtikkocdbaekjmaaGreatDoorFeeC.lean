/- fees.Fee: walked. -/
import Derived.Test.YtikkocdbaekjmaaGreatDoorFeeB
import Derived.Test.YtikkocdbaekjmaaGreatDoorRate
namespace Go.Proofs.YtikkocdbaekjmaaGreatDoor
open Go.RowKit

/-- The place of the amount's tier among the first k. -/
def tierTo (t : Nat → Tier) (a : Int) : Nat → Nat
  | 0 => 0
  | k + 1 => if (t k).fr ≤ a then k else tierTo t a k
/-- The fee of an amount, by a tier and the bounds. -/
def feeOf (x : Tier) (l m a : Int) : Int :=
  let f := max (x.fl + (rateOf (a.toNat * x.rt.toNat) : Nat)) l
  if m = 0 then f else min f m
/-- What Fee answers. -/
def feeR (B : Nat → Addr) (n : Nat) (t : Nat → Tier) (l m a : Int) : Value :=
  if goodB n t l m = true then (if 1 ≤ a ∧ a ≤ 10000000000 then .tuple #[.int .i64 (feeOf (t (tierTo t a n)) l m a), .nilIface] else .tuple #[.int .i64 0, ev B 9]) else .tuple #[.int .i64 0, ev B 7]

theorem goodTo_true {t : Nat → Tier} : ∀ {n : Nat}, goodTo t n = true → ∀ i, i < n → goodT t i = true
  | n + 1, h, i, hi => by
    unfold goodTo at h
    rw [Bool.and_eq_true] at h
    by_cases e : i = n
    · rw [e]; exact h.2
    · exact goodTo_true h.1 i (by omega)
theorem amt_of {x : Int} (h : amtB x = true) : 0 ≤ x ∧ x ≤ 10000000000 := of_decide_eq_true h
/-- A good schedule, taken apart. -/
structure GoodP (n : Nat) (t : Nat → Tier) (l m : Int) : Prop where
  n1 : 1 ≤ n
  n6 : n ≤ 6
  first : (t 0).fr = 0
  fr : ∀ i, i < n → 0 ≤ (t i).fr ∧ (t i).fr ≤ 10000000000
  fl : ∀ i, i < n → 0 ≤ (t i).fl ∧ (t i).fl ≤ 10000000000
  rt : ∀ i, i < n → 0 ≤ (t i).rt ∧ (t i).rt ≤ 10000
  rise : ∀ i, i + 1 < n → (t i).fr < (t (i + 1)).fr
  l0 : 0 ≤ l ∧ l ≤ 10000000000
  m0 : 0 ≤ m ∧ m ≤ 10000000000
  lm : m = 0 ∨ l ≤ m
theorem goodP {n : Nat} {t : Nat → Tier} {l m : Int} (h : goodB n t l m = true) : GoodP n t l m := by
  unfold goodB at h
  simp only [Bool.and_eq_true, decide_eq_true_eq, beq_iff_eq] at h
  obtain ⟨⟨⟨⟨h1, h2⟩, h3⟩, h4⟩, h5⟩ := h
  have hk : ∀ i, i < n → okT (t i) = true := fun i hi => by
    have := goodTo_true h4 i hi
    unfold goodT at this
    rw [Bool.and_eq_true] at this
    exact this.1
  have ho : ∀ i, i < n → (amtB (t i).fr = true ∧ amtB (t i).fl = true) ∧ rateB (t i).rt = true := fun i hi => by
    have := hk i hi
    unfold okT at this
    simpa [Bool.and_eq_true] using this
  unfold goodL at h5
  simp only [Bool.and_eq_true, Bool.or_eq_true, beq_iff_eq, decide_eq_true_eq] at h5
  exact ⟨h1, h2, h3, fun i hi => amt_of (ho i hi).1.1, fun i hi => amt_of (ho i hi).1.2, fun i hi => of_decide_eq_true (ho i hi).2, fun i hi => by
    have := goodTo_true h4 (i + 1) hi
    unfold goodT at this
    rw [Bool.and_eq_true] at this
    have h6 := this.2
    simpa using h6, amt_of h5.1.1, amt_of h5.1.2, h5.2⟩
theorem tierTo_lt (t : Nat → Tier) (a : Int) {n : Nat} (hn : 0 < n) : ∀ k, k ≤ n → tierTo t a k < n
  | 0, _ => hn
  | k + 1, h => by
    unfold tierTo
    split
    · omega
    · exact tierTo_lt t a hn k (by omega)
/-- A tier in a block of its own. -/
def TierAt (w : World) (g : Nat) (x : Tier) : Prop := w.heap[g]? = some (.cells #[.int .i64 x.fr, .int .i64 x.fl, .int .i64 x.rt] 35 (0, 0))

theorem TierAt.cells {w : World} {g : Nat} {x : Tier} (h : TierAt w g x) : (w.cell? ⟨g, 0, none⟩ = some (.int .i64 x.fr) ∧ w.cell? ⟨g, 1, none⟩ = some (.int .i64 x.fl) ∧ w.cell? ⟨g, 2, none⟩ = some (.int .i64 x.rt)) ∧
    w.frozen? ⟨g, 0, none⟩ = false ∧ w.frozen? ⟨g, 1, none⟩ = false ∧ w.frozen? ⟨g, 2, none⟩ = false := by
  unfold TierAt at h
  refine ⟨⟨?_, ?_, ?_⟩, ?_, ?_, ?_⟩ <;> (first | unfold World.cell? | unfold World.frozen?) <;> rw [h] <;> rfl
theorem TierAt.set {w : World} {g : Nat} {x : Tier} (h : TierAt w g x) (y : Tier) : TierAt (((w.setCell ⟨g, 0, none⟩ (.int .i64 y.fr)).setCell ⟨g, 1, none⟩ (.int .i64 y.fl)).setCell ⟨g, 2, none⟩ (.int .i64 y.rt)) g y := by
  unfold TierAt at h ⊢
  simp [World.setCell, Array.getElem?_modify, h]
theorem TierAt.below {w w' : World} {g : Nat} {x : Tier} (h : TierAt w g x) (hb : Below w.heap.size w w') : TierAt w' g x := by
  unfold TierAt at h ⊢
  have hl : g < w.heap.size := lt_of_block h
  rw [hb.block g hl]; exact h

set_option maxRecDepth 100000 in
set_option maxHeartbeats 4000000 in
theorem fee_any (B : Nat → Addr) (A : Option Addr) (n c : Nat) (t : Nat → Tier) (l m a : Int) (w : World) (hE : Env w B) (hT : Tiers w A n t) :
    Calls Tryz.prog 15 #[feeV A n c l m, .int .i64 a] w fun e w' => e = .returned (feeR B n t l m a) ∧ Below w.heap.size w w' := by
  have HE := Lib.hid hE; have HT := Lib.hid hT
  have HX := Lib.hid (Boxed.new w A n c l m)
  have hTT : Tiers (w.alloc (.cells #[.slice A n c, .int .i64 l, .int .i64 m] 25)) A n t := hT.imp id fun ⟨b, o, e, hb, hc⟩ => ⟨b, o, e, Nat.lt_of_lt_of_le hb HX.out.below.size, fun i hi =>
    ⟨(HX.out.below.cell (p := ⟨b, o + i * 3, none⟩) hb).trans (hc i hi).1, (HX.out.below.cell (p := ⟨b, o + i * 3 + 1, none⟩) hb).trans (hc i hi).2.1, (HX.out.below.cell (p := ⟨b, o + i * 3 + 2, none⟩) hb).trans (hc i hi).2.2⟩⟩
  have a1 := check_any B A n c t l m _ (HE.out.below HX.out.below) hTT
  unfold feeV at a1 ⊢
  clear hE hT hTT
  go_enter Tryz.func15, Tryz.ntmps15
  go_wp2_with fail
  refine a1.mono ?_
  clear a1
  rintro e w2 ⟨rfl, hb2⟩
  have HX2 := Lib.hid (HX.out.step hb2)
  clear hb2 HX
  have hgg := (HE.out.below HX2.out.below).cell 1 (by decide)
  obtain ⟨x1, x2, x3⟩ := HX2.out.cells
  cases hG : goodB n t l m with
  | false =>
    have R := Lib.hid (show feeR B n t l m a = .tuple #[.int .i64 0, .iface 292 (.pointer (some (B 0)))] by unfold feeR; rw [hG]; rfl)
    have e7 : chkV B false = .iface 292 (.pointer (some (B 0))) := rfl
    rw [e7]
    clear hG e7
    go_wp2
    go_ret2
    exact ⟨by rw [R.out]; rfl, HX2.out.below⟩
  | true =>
    have e7 : chkV B true = .nilIface := rfl
    rw [e7]
    clear e7
    by_cases ha : 1 ≤ a ∧ a ≤ 10000000000
    · have GP := Lib.hid (goodP hG)
      have R := Lib.hid (show feeR B n t l m a = .tuple #[.int .i64 (feeOf (t (tierTo t a n)) l m a), .nilIface] by unfold feeR; rw [if_pos hG, if_pos ha])
      have n1 := GP.out.n1
      have n6 := GP.out.n6
      rcases HT.out with h0 | ⟨b, o, rfl, hb, hc⟩
      · omega
      · have d1 : decide (a < 1) = false := decide_eq_false (by omega)
        have d2 : decide (10000000000 < a) = false := decide_eq_false (by omega)
        have HA := Lib.hid ha
        have HC := Lib.hid (show ∀ i, i < n → w2.cell? ⟨b, o + i * 3, none⟩ = some (.int .i64 (t i).fr) ∧ w2.cell? ⟨b, o + i * 3 + 1, none⟩ = some (.int .i64 (t i).fl) ∧ w2.cell? ⟨b, o + i * 3 + 2, none⟩ = some (.int .i64 (t i).rt) from fun i hi =>
          ⟨(HX2.out.below.cell (p := ⟨b, o + i * 3, none⟩) hb).trans (hc i hi).1, (HX2.out.below.cell (p := ⟨b, o + i * 3 + 1, none⟩) hb).trans (hc i hi).2.1, (HX2.out.below.cell (p := ⟨b, o + i * 3 + 2, none⟩) hb).trans (hc i hi).2.2⟩)
        have hbl : b < w2.heap.size := Nat.lt_of_lt_of_le hb HX2.out.below.size
        obtain ⟨c0, c1, c2⟩ := HC.out 0 (by omega)
        rw [Nat.zero_mul, Nat.add_zero] at c0 c1 c2
        have hlt := HX2.out.lt
        clear ha hG hc HT hgg
        go_upto_region 8 with fail
        have hT0 : TierAt (w2.alloc (.cells #[.int .i64 (t 0).fr, .int .i64 (t 0).fl, .int .i64 (t 0).rt] 35)) w2.heap.size (t (tierTo t a 0)) := heap_alloc_new w2 _
        have HT0 := Lib.hid hT0
        have HB0 := Lib.hid ((Below.refl w2.heap.size w2).alloc (Nat.le_refl _) (.cells #[.int .i64 (t 0).fr, .int .i64 (t 0).fl, .int .i64 (t 0).rt] 35))
        clear hT0 c0 c1 c2 x1 x2 x3
        go_loopw [32] (fun vi wr => ∃ k : Nat, vi = .int .i64 k ∧ k ≤ n ∧ Hid (Below w2.heap.size w2 wr) ∧ Hid (TierAt wr w2.heap.size (t (tierTo t a k)))) (fun vi _ => n - (intOf vi).toNat)
        case atStart => exact ⟨0, rfl, Nat.zero_le _, HB0, HT0⟩
        case round =>
          obtain ⟨k, rfl, hk, hbw, hta⟩ := hrel
          rcases Nat.lt_or_ge k n with h | h
          · have hkI : (k : Int) < n := by omega
            obtain ⟨c0, c1, c2⟩ := HC.out k h
            have c0 := (hbw.out.cell (p := ⟨b, o + k * 3, none⟩) hbl).trans c0
            have c1 := (hbw.out.cell (p := ⟨b, o + k * 3 + 1, none⟩) hbl).trans c1
            have c2 := (hbw.out.cell (p := ⟨b, o + k * 3 + 2, none⟩) hbl).trans c2
            have hgl : w2.heap.size < wr.heap.size := lt_of_block hta.out
            generalize hx : t k = x at *
            have HX := Lib.hid hx
            clear hx
            obtain ⟨x, y, z⟩ := x
            have HTT := Lib.hid (show tierTo t a (k + 1) = if x ≤ a then k else tierTo t a k by show (if (t k).fr ≤ a then k else tierTo t a k) = _; rw [HX.out])
            by_cases hle : x ≤ a
            · have q1 : decide (x ≤ a) = true := decide_eq_true hle
              have HT2 := Lib.hid (HTT.out.trans (if_pos hle))
              clear hle HTT
              obtain ⟨⟨f0, f1, f2⟩, g0, g1, g2⟩ := hta.out.cells
              go_wp2
              have hB3 := ((hbw.out.setCell (p := ⟨w2.heap.size, 0, none⟩) (Nat.le_refl _) (.int .i64 x)).setCell (p := ⟨w2.heap.size, 1, none⟩) (Nat.le_refl _) (.int .i64 y)).setCell (p := ⟨w2.heap.size, 2, none⟩) (Nat.le_refl _) (.int .i64 z)
              have hT3 := hta.out.set ⟨x, y, z⟩
              refine ⟨⟨k + 1, by go_num, h, hB3.alloc hB3.size _, ?_⟩, by simp [intOf]; omega⟩
              rw [HT2.out, HX.out]
              exact hT3.below ((Below.refl _ _).alloc (Nat.le_refl _) _)
            · have q1 : decide (x ≤ a) = false := decide_eq_false hle
              have HT2 := Lib.hid (HTT.out.trans (if_neg hle))
              clear hle HTT
              go_wp2
              refine ⟨⟨k + 1, by go_num, h, hbw.out.alloc hbw.out.size _, ?_⟩, by simp [intOf]; omega⟩
              rw [HT2.out]
              exact hta.out.below ((Below.refl _ _).alloc (Nat.le_refl _) _)
          · obtain rfl : n = k := by omega
            have hix := tierTo_lt t a (n := n) (by omega) n (Nat.le_refl _)
            have hfl := GP.out.fl _ hix
            have hrt := GP.out.rt _ hix
            have hl := GP.out.l0
            have hm := GP.out.m0
            generalize t (tierTo t a n) = x at *
            obtain ⟨fr, fl, rt⟩ := x
            dsimp only at hfl hrt
            obtain ⟨⟨f0, f1, f2⟩, _, _, _⟩ := hta.out.cells
            obtain ⟨x1, x2, x3⟩ := (HX2.out.step hbw.out).cells
            obtain ⟨r, rfl⟩ := Int.eq_ofNat_of_zero_le hrt.1
            obtain ⟨v, rfl⟩ := Int.eq_ofNat_of_zero_le (show 0 ≤ a by have := HA.out; omega)
            have hv : v ≤ 10000000000 := by have := HA.out; omega
            have hr : r ≤ 10000 := by have := hrt.2; omega
            have hprod : v * r ≤ 10000000000 * 10000 := Nat.mul_le_mul hv hr
            have hp14 : v * r < 18446744073709551616 := Nat.lt_of_le_of_lt hprod (by decide)
            have a2 := rate_any v r wr (by omega) hr hp14
            have hsh := rateOf_le (a := v) hr
            have HBW := Lib.hid (HX2.out.below.trans (hbw.out.mono HX2.out.below.size))
            dsimp only at f1 f2
            clear hta HC hprod f0 hp14 hrt
            go_wp2_with fail
            refine a2.mono ?_
            clear a2
            rintro e w5 ⟨rfl, hb5⟩
            have f1 := (hb5.cell (p := ⟨w2.heap.size, 1, none⟩) (World.block_lt_of_cell? _ _ f1)).trans f1
            have x2 := (hb5.cell (p := ⟨w.heap.size, 1, none⟩) (World.block_lt_of_cell? _ _ x2)).trans x2
            have x3 := (hb5.cell (p := ⟨w.heap.size, 2, none⟩) (World.block_lt_of_cell? _ _ x3)).trans x3
            have HB5 := Lib.hid (HBW.out.trans (hb5.mono HBW.out.size))
            have HR := Lib.hid (show feeOf ⟨fr, fl, r⟩ l m v = if m = 0 then max (fl + (rateOf (v * r) : Nat)) l else min (max (fl + (rateOf (v * r) : Nat)) l) m by
              unfold feeOf; simp)
            clear hb5
            generalize rateOf (v * r) = sh at *
            have hshI : (sh : Int) ≤ 10000000000 := by omega
            by_cases hm0 : m = 0
            · have q1 : (m == 0) = true := beq_iff_eq.2 hm0
              have q2 : (m != 0) = false := by simp [hm0]
              have HR2 := Lib.hid (HR.out.trans (if_pos hm0))
              clear hm0
              go_wp2
              go_ret2
              exact ⟨by rw [R.out, HR2.out]; rfl, HB5.out⟩
            · have q1 : (m == 0) = false := beq_eq_false_iff_ne.2 hm0
              have q2 : (m != 0) = true := by simp [hm0]
              have HR2 := Lib.hid (HR.out.trans (if_neg hm0))
              clear hm0
              go_wp2
              go_ret2
              exact ⟨by rw [R.out, HR2.out]; rfl, HB5.out⟩
    · have R := Lib.hid (show feeR B n t l m a = .tuple #[.int .i64 0, .iface 292 (.pointer (some (B 1)))] by unfold feeR; rw [if_pos hG, if_neg ha]; rfl)
      clear hG
      by_cases h1 : a < 1
      · have d1 : decide (a < 1) = true := decide_eq_true h1
        clear ha h1
        go_wp2_with fail
        go_quiet (fail)
        go_wp2
        go_ret2
        exact ⟨by rw [R.out]; rfl, below_drewN HX2.out.below nq⟩
      · have d1 : decide (a < 1) = false := decide_eq_false h1
        have d2 : decide (10000000000 < a) = true := decide_eq_true (by omega)
        clear ha h1
        go_wp2_with fail
        go_quiet (fail)
        go_wp2
        go_ret2
        exact ⟨by rw [R.out]; rfl, below_drewN HX2.out.below nq⟩
end Go.Proofs.YtikkocdbaekjmaaGreatDoor
