/- fees.Check: walked. -/
import Derived.Test.YtikkocdbaekjmaaGreatDoorFeeA
namespace Go.Proofs.YtikkocdbaekjmaaGreatDoor
open Go.RowKit

structure Tier where
  fr : Int
  fl : Int
  rt : Int
/-- A slice holds n tiers. -/
def Tiers (w : World) (A : Option Addr) (n : Nat) (t : Nat → Tier) : Prop := n = 0 ∨ ∃ b o, A = some ⟨b, o, none⟩ ∧ b < w.heap.size ∧
  ∀ i, i < n → w.cell? ⟨b, o + i * 3, none⟩ = some (.int .i64 (t i).fr) ∧ w.cell? ⟨b, o + i * 3 + 1, none⟩ = some (.int .i64 (t i).fl) ∧ w.cell? ⟨b, o + i * 3 + 2, none⟩ = some (.int .i64 (t i).rt)
/-- A schedule as a value. -/
def feeV (A : Option Addr) (n c : Nat) (l m : Int) : Value := .agg #[.slice A n c, .int .i64 l, .int .i64 m]
def rateB (x : Int) : Bool := decide (0 ≤ x ∧ x ≤ 10000)
/-- Are a tier's numbers good? -/
def okT (x : Tier) : Bool := amtB x.fr && amtB x.fl && rateB x.rt
/-- Is tier i good? -/
def goodT (t : Nat → Tier) (i : Nat) : Bool := okT (t i) && (i == 0 || decide ((t (i - 1)).fr < (t i).fr))
def goodTo (t : Nat → Tier) : Nat → Bool
  | 0 => true
  | k + 1 => goodTo t k && goodT t k
def goodL (l m : Int) : Bool := amtB l && amtB m && (m == 0 || decide (l ≤ m))
/-- Is a schedule good? -/
def goodB (n : Nat) (t : Nat → Tier) (l m : Int) : Bool := decide (1 ≤ n ∧ n ≤ 6) && ((t 0).fr == 0) && goodTo t n && goodL l m
theorem below_drewN {B : Nat} {w w' : World} (h : Below B w w') (n : Nat) : Below B w (w'.drewN n) := ⟨h.os, h.tape, h.output, h.size, h.block⟩
/-- What Check answers. -/
def chkV (B : Nat → Addr) (b : Bool) : Value := if b then .nilIface else ev B 7
theorem goodTo_false {t : Nat → Tier} {k : Nat} (h : goodT t k = false) : ∀ n, k < n → goodTo t n = false
  | n + 1, hk => by
    unfold goodTo
    by_cases e : k = n
    · subst e; rw [h, Bool.and_false]
    · rw [goodTo_false h n (by omega), Bool.false_and]
theorem chk_bad {B : Nat → Addr} {n : Nat} {t : Nat → Tier} {l m : Int} (h : goodB n t l m = false) : Ending.returned (.iface 292 (.pointer (some (B 0)))) = .returned (chkV B (goodB n t l m)) := by rw [h]; rfl
theorem bad_at {n : Nat} {t : Nat → Tier} {l m : Int} {k : Nat} (hk : k < n) (h : goodT t k = false) : goodB n t l m = false := by
  unfold goodB; rw [goodTo_false h n hk]; simp

/-- The box of a schedule stands behind w, and all of w. -/
structure Boxed (w wr : World) (A : Option Addr) (n c : Nat) (l m : Int) : Prop where
  below : Below w.heap.size w wr
  box : wr.heap[w.heap.size]? = some (.cells #[.slice A n c, .int .i64 l, .int .i64 m] 25 (0, 0))
theorem Boxed.new (w : World) (A : Option Addr) (n c : Nat) (l m : Int) : Boxed w (w.alloc (.cells #[.slice A n c, .int .i64 l, .int .i64 m] 25)) A n c l m :=
  ⟨(Below.refl _ _).alloc (Nat.le_refl _) _, heap_alloc_new w _⟩
theorem Boxed.lt {w wr : World} {A : Option Addr} {n c : Nat} {l m : Int} (h : Boxed w wr A n c l m) : w.heap.size < wr.heap.size := by
  rcases Nat.lt_or_ge w.heap.size wr.heap.size with h' | h'
  · exact h'
  · have := h.box; rw [Array.getElem?_eq_none h'] at this; cases this
theorem Boxed.step {w wr w2 : World} {A : Option Addr} {n c : Nat} {l m : Int} (h : Boxed w wr A n c l m) (hb : Below wr.heap.size wr w2) : Boxed w w2 A n c l m :=
  ⟨h.below.trans (hb.mono h.below.size), (hb.block _ h.lt).trans h.box⟩
theorem Boxed.cells {w wr : World} {A : Option Addr} {n c : Nat} {l m : Int} (h : Boxed w wr A n c l m) : wr.cell? ⟨w.heap.size, 0, none⟩ = some (.slice A n c) ∧ wr.cell? ⟨w.heap.size, 1, none⟩ = some (.int .i64 l) ∧ wr.cell? ⟨w.heap.size, 2, none⟩ = some (.int .i64 m) := by
  refine ⟨?_, ?_, ?_⟩ <;> unfold World.cell? <;> rw [h.box] <;> rfl

set_option maxRecDepth 100000 in
set_option maxHeartbeats 4000000 in
theorem check_in (B : Nat → Addr) (b o n c : Nat) (t : Nat → Tier) (l m : Int) (w : World) (hE : Env w B) (hb : b < w.heap.size) (hc : ∀ i, i < n → w.cell? ⟨b, o + i * 3, none⟩ = some (.int .i64 (t i).fr) ∧ w.cell? ⟨b, o + i * 3 + 1, none⟩ = some (.int .i64 (t i).fl) ∧ w.cell? ⟨b, o + i * 3 + 2, none⟩ = some (.int .i64 (t i).rt))
    (h1 : 1 ≤ n) (h6 : n ≤ 6) (h0 : (t 0).fr = 0) :
    Calls Tryz.prog 14 #[feeV (some ⟨b, o, none⟩) n c l m] w fun e w' => e = .returned (chkV B (goodB n t l m)) ∧ Below w.heap.size w w' := by
  have HE := Lib.hid hE; have HC := Lib.hid hc
  have d1 : decide ((n : Int) < 1) = false := decide_eq_false (by omega)
  have d2 : decide ((6 : Int) < (n : Int)) = false := decide_eq_false (by omega)
  have HB := Lib.hid (show ∀ k, k < n → goodT t k = false → goodB n t l m = false from fun k hk h => bad_at hk h)
  have HG := Lib.hid (show goodTo t n = true → goodB n t l m = goodL l m by
    intro h; unfold goodB; rw [h, h0, decide_eq_true ⟨h1, h6⟩]; simp)
  obtain ⟨c0, c1, c2⟩ := hc 0 (by omega)
  rw [Nat.zero_mul, Nat.add_zero] at c0 c1 c2
  rw [h0] at c0
  unfold feeV
  clear hE hc c1 c2 h0
  generalize goodB n t l m = G at *
  go_enter Tryz.func14, Tryz.ntmps14
  go_wp2_with fail
  have HX := Lib.hid (Boxed.new w (some ⟨b, o, none⟩) n c l m)
  clear c0
  go_loopw [27] (fun vi wr => ∃ k : Nat, vi = .int .i64 k ∧ k ≤ n ∧ Hid (goodTo t k = true) ∧ Hid (Boxed w wr (some ⟨b, o, none⟩) n c l m)) (fun vi _ => n - (intOf vi).toNat)
  case atStart => exact ⟨0, rfl, Nat.zero_le _, rfl, HX⟩
  case round =>
    obtain ⟨k, rfl, hk, hgo, hbx⟩ := hrel
    rcases Nat.lt_or_ge k n with h | h
    · have hkI : (k : Int) < n := by omega
      obtain ⟨c0, c1, c2⟩ := HC.out k h
      have c0 := (hbx.out.below.cell (p := ⟨b, o + k * 3, none⟩) hb).trans c0
      have c1 := (hbx.out.below.cell (p := ⟨b, o + k * 3 + 1, none⟩) hb).trans c1
      have c2 := (hbx.out.below.cell (p := ⟨b, o + k * 3 + 2, none⟩) hb).trans c2
      have HX2 := Lib.hid (show ∃ x, x = t k from ⟨_, rfl⟩)
      obtain ⟨⟨x, y, z⟩, hx⟩ := HX2.out
      rw [← hx] at c0 c1 c2
      have HXK := Lib.hid hx
      have HB2 := Lib.hid (show goodT t k = false → G = false from HB.out k h)
      have HP := Lib.hid (show ∀ j, j < n → wr.cell? ⟨b, o + j * 3, none⟩ = some (.int .i64 (t j).fr) from fun j hj => (hbx.out.below.cell (p := ⟨b, o + j * 3, none⟩) hb).trans (HC.out j hj).1)
      have hlt := hbx.out.lt
      have hbl : b < wr.heap.size := Nat.lt_of_lt_of_le hb hbx.out.below.size
      clear hx HX2
      go_upto_region 6 with fail
      have hW := hbx.out.step (Below.alloc (Below.refl wr.heap.size wr) (Nat.le_refl _) (.cells #[.int .i64 x, .int .i64 y, .int .i64 z] 35))
      have e0 : (wr.alloc (.cells #[.int .i64 x, .int .i64 y, .int .i64 z] 35)).cell? ⟨wr.heap.size, 0, none⟩ = some (.int .i64 x) := by simp
      have e1 : (wr.alloc (.cells #[.int .i64 x, .int .i64 y, .int .i64 z] 35)).cell? ⟨wr.heap.size, 1, none⟩ = some (.int .i64 y) := by simp
      have e2 : (wr.alloc (.cells #[.int .i64 x, .int .i64 y, .int .i64 z] 35)).cell? ⟨wr.heap.size, 2, none⟩ = some (.int .i64 z) := by simp
      have HP := Lib.hid (show ∀ j, j < n → (wr.alloc (.cells #[.int .i64 x, .int .i64 y, .int .i64 z] 35)).cell? ⟨b, o + j * 3, none⟩ = some (.int .i64 (t j).fr) from fun j hj => (((Below.refl wr.heap.size wr).alloc (Nat.le_refl _) _).cell (p := ⟨b, o + j * 3, none⟩) hbl).trans (HP.out j hj))
      have HW := Lib.hid hW
      obtain ⟨x1, x2, x3⟩ := hW.cells
      have hg := (HE.out.below hW.below).cell 0 (by decide)
      clear hW c0 c1 c2
      generalize wr.alloc (.cells #[.int .i64 x, .int .i64 y, .int .i64 z] 35) = w1 at *
      generalize wr.heap.size = g at *
      go_cut [51] from 32 to 51 (fun v wx => v = .bool (!okT ⟨x, y, z⟩) ∧ wx = w1)
      case first =>
        cases k1 : amtB x with
        | false =>
          have OK := Lib.hid (show (!okT ⟨x, y, z⟩) = true by unfold okT; simp [k1])
          go_wp2_with (go_at_call 24; refine (amount_any _ _).mono ?_; rintro e w' ⟨rfl, rfl⟩)
          go_meet
          exact ⟨congrArg Value.bool OK.out.symm, rfl⟩
        | true =>
          cases k2 : amtB y with
          | false =>
            have OK := Lib.hid (show (!okT ⟨x, y, z⟩) = true by unfold okT; simp [k2])
            go_wp2_with (go_at_call 24; refine (amount_any _ _).mono ?_; rintro e w' ⟨rfl, rfl⟩)
            go_meet
            exact ⟨congrArg Value.bool OK.out.symm, rfl⟩
          | true =>
            by_cases k3 : z < 0
            · have d3 : decide (z < 0) = true := decide_eq_true k3
              have OK := Lib.hid (show (!okT ⟨x, y, z⟩) = true by unfold okT rateB; simp [k1, k2]; omega)
              clear k3
              go_wp2_with (go_at_call 24; refine (amount_any _ _).mono ?_; rintro e w' ⟨rfl, rfl⟩)
              go_meet
              exact ⟨congrArg Value.bool OK.out.symm, rfl⟩
            · have d3 : decide (z < 0) = false := decide_eq_false k3
              by_cases k4 : 10000 < z
              · have d4 : decide (10000 < z) = true := decide_eq_true k4
                have OK := Lib.hid (show (!okT ⟨x, y, z⟩) = true by unfold okT rateB; simp [k1, k2]; omega)
                clear k3 k4
                go_wp2_with (go_at_call 24; refine (amount_any _ _).mono ?_; rintro e w' ⟨rfl, rfl⟩)
                go_meet
                exact ⟨congrArg Value.bool OK.out.symm, rfl⟩
              · have d4 : decide (10000 < z) = false := decide_eq_false k4
                have OK := Lib.hid (show (!okT ⟨x, y, z⟩) = false by unfold okT rateB; simp [k1, k2]; omega)
                clear k3 k4
                go_wp2_with (go_at_call 24; refine (amount_any _ _).mono ?_; rintro e w' ⟨rfl, rfl⟩)
                go_meet
                exact ⟨congrArg Value.bool OK.out.symm, rfl⟩
      case rest =>
        obtain ⟨rfl, rfl⟩ := hcut
        have HOK := Lib.hid (show okT (t k) = okT ⟨x, y, z⟩ by rw [HXK.out])
        generalize okT ⟨x, y, z⟩ = q at *
        cases q with
        | false =>
          have F := Lib.hid (HB2.out (by unfold goodT; rw [HOK.out]; rfl))
          go_wp2
          go_ret
          exact ⟨by rw [F.out]; rfl, HW.out.below⟩
        | true =>
          clear e1 e2
          by_cases hz : k = 0
          · have HG1 := Lib.hid (show goodTo t (k + 1) = true by unfold goodTo goodT; rw [hgo.out, HOK.out, hz]; rfl)
            have q1 : decide ((0 : Int) < (k : Int)) = false := decide_eq_false (by omega)
            have q2 : decide (0 < k) = false := decide_eq_false (by omega)
            clear hz
            go_wp2_with fail
            go_quiet (fail)
            go_wp2
            refine ⟨⟨k + 1, by go_num, h, HG1, HW.out.step (below_drewN (Below.refl _ _) nq)⟩, by simp [intOf]; omega⟩
          · obtain ⟨j, rfl⟩ : ∃ j, k = j + 1 := ⟨k - 1, by omega⟩
            have hp := HP.out j (by omega)
            have hfr : (t (j + 1)).fr = x := by rw [← HXK.out]
            have HG1 := Lib.hid (show (t j).fr < x → goodTo t (j + 1 + 1) = true from fun hh => by
              show (goodTo t (j + 1) && goodT t (j + 1)) = true
              rw [hgo.out]
              show (true && (okT (t (j + 1)) && (j + 1 == 0 || decide ((t j).fr < (t (j + 1)).fr)))) = true
              rw [HOK.out, hfr, decide_eq_true hh]; simp)
            have HG2 := Lib.hid (show ¬ (t j).fr < x → G = false from fun hh => HB2.out (by
              show (okT (t (j + 1)) && (j + 1 == 0 || decide ((t j).fr < (t (j + 1)).fr))) = false
              rw [hfr, decide_eq_false hh]; simp))
            generalize (t j).fr = p at *
            have q1 : decide ((0 : Int) < ((j + 1 : Nat) : Int)) = true := decide_eq_true (by omega)
            have q2 : decide (0 < j + 1) = true := decide_eq_true (by omega)
            have q3 : IntKind.i64.wrap (((j + 1 : Nat) : Int) - 1) = (j : Int) := by simp only [IntKind.wrap_i64]; omega
            have q4 : (j : Int) < n := by omega
            clear hfr hz
            by_cases hlt2 : p < x
            · have q5 : decide (x ≤ p) = false := decide_eq_false (by omega)
              have G1 := Lib.hid (HG1.out hlt2)
              clear hlt2
              go_wp2_with fail
              go_quiet (fail)
              go_wp2
              refine ⟨⟨j + 1 + 1, by go_num, h, G1, HW.out.step (below_drewN (Below.refl _ _) nq)⟩, by simp [intOf]; omega⟩
            · have q5 : decide (x ≤ p) = true := decide_eq_true (by omega)
              have G1 := Lib.hid (HG2.out hlt2)
              clear hlt2
              go_wp2_with fail
              go_quiet (fail)
              go_wp2
              go_ret
              exact ⟨by rw [G1.out]; rfl, below_drewN HW.out.below nq⟩
    · obtain rfl : n = k := by omega
      have HGG := Lib.hid (HG.out hgo.out)
      obtain ⟨x1, x2, x3⟩ := hbx.out.cells
      have hg := (HE.out.below hbx.out.below).cell 0 (by decide)
      clear HG HB hgo
      go_upto_region 11 with fail
      go_cut [90] from 69 to 90 (fun v wx => v = .bool (!goodL l m) ∧ wx = wr)
      case first =>
        cases k1 : amtB l with
        | false =>
          have OK := Lib.hid (show (!goodL l m) = true by unfold goodL; simp [k1])
          go_wp2_with (go_at_call 24; refine (amount_any _ _).mono ?_; rintro e w' ⟨rfl, rfl⟩)
          go_meet
          exact ⟨congrArg Value.bool OK.out.symm, rfl⟩
        | true =>
          cases k2 : amtB m with
          | false =>
            have OK := Lib.hid (show (!goodL l m) = true by unfold goodL; simp [k2])
            go_wp2_with (go_at_call 24; refine (amount_any _ _).mono ?_; rintro e w' ⟨rfl, rfl⟩)
            go_meet
            exact ⟨congrArg Value.bool OK.out.symm, rfl⟩
          | true =>
            by_cases k3 : m = 0
            · have d3 : (m == 0) = true := beq_iff_eq.2 k3
              have d3' : (m != 0) = false := by simp [k3]
              have OK := Lib.hid (show (!goodL l m) = false by unfold goodL; rw [k1, k2, d3]; rfl)
              clear k3
              go_wp2_with (go_at_call 24; refine (amount_any _ _).mono ?_; rintro e w' ⟨rfl, rfl⟩)
              go_meet
              exact ⟨congrArg Value.bool OK.out.symm, rfl⟩
            · have d3 : (m == 0) = false := beq_eq_false_iff_ne.2 k3
              have d3' : (m != 0) = true := by simp [k3]
              by_cases k4 : m < l
              · have d4 : decide (m < l) = true := decide_eq_true k4
                have OK := Lib.hid (show (!goodL l m) = true by unfold goodL; simp [k1, k2, k3]; omega)
                clear k3 k4
                go_wp2_with (go_at_call 24; refine (amount_any _ _).mono ?_; rintro e w' ⟨rfl, rfl⟩)
                go_meet
                exact ⟨congrArg Value.bool OK.out.symm, rfl⟩
              · have d4 : decide (m < l) = false := decide_eq_false k4
                have OK := Lib.hid (show (!goodL l m) = false by unfold goodL; simp [k1, k2, k3]; omega)
                clear k3 k4
                go_wp2_with (go_at_call 24; refine (amount_any _ _).mono ?_; rintro e w' ⟨rfl, rfl⟩)
                go_meet
                exact ⟨congrArg Value.bool OK.out.symm, rfl⟩
      case rest =>
        obtain ⟨rfl, rfl⟩ := hcut
        generalize goodL l m = q at *
        cases q with
        | false =>
          go_wp2
          go_ret
          exact ⟨by rw [HGG.out]; rfl, hbx.out.below⟩
        | true =>
          go_wp2
          go_ret
          exact ⟨by rw [HGG.out]; rfl, hbx.out.below⟩

set_option maxRecDepth 100000 in
/-- Check, whatever the schedule. -/
theorem check_any (B : Nat → Addr) (A : Option Addr) (n c : Nat) (t : Nat → Tier) (l m : Int) (w : World) (hE : Env w B) (hT : Tiers w A n t) :
    Calls Tryz.prog 14 #[feeV A n c l m] w fun e w' => e = .returned (chkV B (goodB n t l m)) ∧ Below w.heap.size w w' := by
  by_cases h1 : n < 1
  · have G := Lib.hid (show goodB n t l m = false by unfold goodB; rw [decide_eq_false (by omega)]; rfl)
    have d1 : decide ((n : Int) < 1) = true := decide_eq_true (by omega)
    have hg := hE.cell 0 (by decide)
    have HG := Lib.hid ((hE.below ((Below.refl _ _).alloc (Nat.le_refl _) (.cells #[.slice A n c, .int .i64 l, .int .i64 m] 25))).cell 0 (by decide))
    have hg := HG.out
    unfold feeV
    clear hE hT
    go_enter Tryz.func14, Tryz.ntmps14
    go_wp2
    go_ret
    exact ⟨by rw [G.out]; rfl, (Below.refl _ _).alloc (Nat.le_refl _) _⟩
  · by_cases h6 : 6 < n
    · have G := Lib.hid (show goodB n t l m = false by unfold goodB; rw [decide_eq_false (by omega)]; rfl)
      have d1 : decide ((n : Int) < 1) = false := decide_eq_false (by omega)
      have d2 : decide ((6 : Int) < (n : Int)) = true := decide_eq_true (by omega)
      have hg := (hE.below ((Below.refl _ _).alloc (Nat.le_refl _) (.cells #[.slice A n c, .int .i64 l, .int .i64 m] 25))).cell 0 (by decide)
      unfold feeV
      clear hE hT
      go_enter Tryz.func14, Tryz.ntmps14
      go_wp2
      go_ret
      exact ⟨by rw [G.out]; rfl, (Below.refl _ _).alloc (Nat.le_refl _) _⟩
    · rcases hT with h0 | ⟨b, o, rfl, hb, hc⟩
      · omega
      · by_cases hz : (t 0).fr = 0
        · exact check_in B b o n c t l m w hE hb hc (by omega) (by omega) hz
        · have G := Lib.hid (show goodB n t l m = false by unfold goodB; rw [beq_eq_false_iff_ne.2 hz, Bool.and_false]; rfl)
          have d1 : decide ((n : Int) < 1) = false := decide_eq_false (by omega)
          have d2 : decide ((6 : Int) < (n : Int)) = false := decide_eq_false (by omega)
          obtain ⟨c0, _, _⟩ := hc 0 (by omega)
          rw [Nat.zero_mul, Nat.add_zero] at c0
          have d3 : ((t 0).fr == 0) = false := beq_eq_false_iff_ne.2 hz
          have d4 : ((t 0).fr != 0) = true := by simp [hz]
          have hg := (hE.below ((Below.refl _ _).alloc (Nat.le_refl _) (.cells #[.slice (some ⟨b, o, none⟩) n c, .int .i64 l, .int .i64 m] 25))).cell 0 (by decide)
          unfold feeV
          clear hE hc hz
          generalize (t 0).fr = x at *
          go_enter Tryz.func14, Tryz.ntmps14
          go_wp2
          go_ret
          exact ⟨by rw [G.out]; rfl, (Below.refl _ _).alloc (Nat.le_refl _) _⟩
end Go.Proofs.YtikkocdbaekjmaaGreatDoor
