/- remitref18.digits, remitref18.share: walked. -/
import Derived.Test.YtikkocdbaekjmaaGreatDoorFeeB
import Derived.Test.YtikkocdbaekjmaaGreatDoorFeeE
import Derived.Lib.ItoaNum
namespace Go.Proofs.YtikkocdbaekjmaaGreatDoor
open Go.RowKit
theorem upto_any (x : Int) (w : World) : Calls Tryz.prog 38 #[.int .i64 x, .int .i64 10000000000] w fun e w' => e = .returned (.bool (amtB x)) ∧ w = w' := by
  by_cases h : 0 ≤ x
  · have d1 : decide (0 ≤ x) = true := decide_eq_true h
    by_cases h2 : x ≤ 10000000000
    · have d2 : decide (x ≤ 10000000000) = true := decide_eq_true h2
      have e : amtB x = true := decide_eq_true ⟨h, h2⟩
      rw [e]
      clear h h2 e
      go_enter Tryz.func38, Tryz.ntmps38
      go_wp2
      go_ret
      exact ⟨rfl, rfl⟩
    · have d2 : decide (x ≤ 10000000000) = false := decide_eq_false h2
      have e : amtB x = false := decide_eq_false fun h => h2 h.2
      rw [e]
      clear h h2 e
      go_enter Tryz.func38, Tryz.ntmps38
      go_wp2
      go_ret
      exact ⟨rfl, rfl⟩
  · have d1 : decide (0 ≤ x) = false := decide_eq_false h
    have e : amtB x = false := decide_eq_false fun h' => h h'.1
    rw [e]
    clear h e
    go_enter Tryz.func38, Tryz.ntmps38
    go_wp2
    go_ret
    exact ⟨rfl, rfl⟩
/-- The number of what Check answers. -/
def chkN (b : Bool) : Value := if b then .int .i64 0 else .int .i64 7

set_option maxRecDepth 100000 in
set_option maxHeartbeats 4000000 in
theorem rcheck_in (b o n c : Nat) (t : Nat → Tier) (l m : Int) (w : World) (hb : b < w.heap.size) (hc : ∀ i, i < n → w.cell? ⟨b, o + i * 3, none⟩ = some (.int .i64 (t i).fr) ∧ w.cell? ⟨b, o + i * 3 + 1, none⟩ = some (.int .i64 (t i).fl) ∧ w.cell? ⟨b, o + i * 3 + 2, none⟩ = some (.int .i64 (t i).rt))
    (h1 : 1 ≤ n) (h6 : n ≤ 6) (h0 : (t 0).fr = 0) :
    Calls Tryz.prog 25 #[feeV (some ⟨b, o, none⟩) n c l m] w fun e w' => e = .returned (chkN (goodB n t l m)) ∧ Below w.heap.size w w' := by
  have HC := Lib.hid hc
  have d1 : decide ((n : Int) < 1) = false := decide_eq_false (by omega)
  have d2 : decide ((6 : Int) < (n : Int)) = false := decide_eq_false (by omega)
  have HB := Lib.hid (show ∀ k, k < n → goodT t k = false → goodB n t l m = false from fun k hk h => bad_at hk h)
  have HG := Lib.hid (show goodTo t n = true → goodB n t l m = goodL l m by
    intro h; unfold goodB; rw [h, h0, decide_eq_true ⟨h1, h6⟩]; simp)
  obtain ⟨c0, c1, c2⟩ := hc 0 (by omega)
  rw [Nat.zero_mul, Nat.add_zero] at c0 c1 c2
  rw [h0] at c0
  unfold feeV
  clear hc c1 c2 h0
  generalize goodB n t l m = G at *
  go_enter Tryz.func25, Tryz.ntmps25
  go_wp2_with fail
  have HX := Lib.hid (Boxed.new w (some ⟨b, o, none⟩) n c l m)
  clear c0
  go_loopw [28] (fun vi wr => ∃ k : Nat, vi = .int .i64 k ∧ k ≤ n ∧ Hid (goodTo t k = true) ∧ Hid (Boxed w wr (some ⟨b, o, none⟩) n c l m)) (fun vi _ => n - (intOf vi).toNat)
  case atStart => exact ⟨0, rfl, Nat.zero_le _, rfl, HX⟩
  case round =>
    obtain ⟨k, rfl, hk, hgo, hbx⟩ := hrel
    rcases Nat.lt_or_ge k n with h | h
    · have hkI : (k : Int) < n := by omega
      obtain ⟨c0, c1, c2⟩ := HC.out k h
      have c0 := (hbx.out.below.cell (p := ⟨b, o + k * 3, none⟩) hb).trans c0
      have c1 := (hbx.out.below.cell (p := ⟨b, o + k * 3 + 1, none⟩) hb).trans c1
      have c2 := (hbx.out.below.cell (p := ⟨b, o + k * 3 + 2, none⟩) hb).trans c2
      have HX2 := Lib.hid (show ∃ x, x = t k from ⟨_, rfl⟩)
      obtain ⟨⟨x, y, z⟩, hx⟩ := HX2.out
      rw [← hx] at c0 c1 c2
      have HXK := Lib.hid hx
      have HB2 := Lib.hid (show goodT t k = false → G = false from HB.out k h)
      have HP := Lib.hid (show ∀ j, j < n → wr.cell? ⟨b, o + j * 3, none⟩ = some (.int .i64 (t j).fr) from fun j hj => (hbx.out.below.cell (p := ⟨b, o + j * 3, none⟩) hb).trans (HC.out j hj).1)
      have hlt := hbx.out.lt
      have hbl : b < wr.heap.size := Nat.lt_of_lt_of_le hb hbx.out.below.size
      clear hx HX2
      go_upto_region 6 with fail
      have hW := hbx.out.step (Below.alloc (Below.refl wr.heap.size wr) (Nat.le_refl _) (.cells #[.int .i64 x, .int .i64 y, .int .i64 z] 35))
      have e0 : (wr.alloc (.cells #[.int .i64 x, .int .i64 y, .int .i64 z] 35)).cell? ⟨wr.heap.size, 0, none⟩ = some (.int .i64 x) := by simp
      have e1 : (wr.alloc (.cells #[.int .i64 x, .int .i64 y, .int .i64 z] 35)).cell? ⟨wr.heap.size, 1, none⟩ = some (.int .i64 y) := by simp
      have e2 : (wr.alloc (.cells #[.int .i64 x, .int .i64 y, .int .i64 z] 35)).cell? ⟨wr.heap.size, 2, none⟩ = some (.int .i64 z) := by simp
      have HP := Lib.hid (show ∀ j, j < n → (wr.alloc (.cells #[.int .i64 x, .int .i64 y, .int .i64 z] 35)).cell? ⟨b, o + j * 3, none⟩ = some (.int .i64 (t j).fr) from fun j hj => (((Below.refl wr.heap.size wr).alloc (Nat.le_refl _) _).cell (p := ⟨b, o + j * 3, none⟩) hbl).trans (HP.out j hj))
      have HW := Lib.hid hW
      obtain ⟨x1, x2, x3⟩ := hW.cells
      clear hW c0 c1 c2
      generalize wr.alloc (.cells #[.int .i64 x, .int .i64 y, .int .i64 z] 35) = w1 at *
      generalize wr.heap.size = g at *
      go_cut [5] from 33 to 50 (fun v wx => v = .bool (okT ⟨x, y, z⟩) ∧ wx = w1)
      case first =>
        cases k1 : amtB x with
        | false =>
          have OK := Lib.hid (show okT ⟨x, y, z⟩ = false by unfold okT; simp [k1])
          go_wp2_with (go_at_call 38; refine (upto_any _ _).mono ?_; rintro e w' ⟨rfl, rfl⟩)
          go_meet
          exact ⟨congrArg Value.bool OK.out.symm, rfl⟩
        | true =>
          cases k2 : amtB y with
          | false =>
            have OK := Lib.hid (show okT ⟨x, y, z⟩ = false by unfold okT; simp [k1, k2])
            go_wp2_with (go_at_call 38; refine (upto_any _ _).mono ?_; rintro e w' ⟨rfl, rfl⟩)
            go_meet
            exact ⟨congrArg Value.bool OK.out.symm, rfl⟩
          | true =>
            by_cases k3 : 0 ≤ z
            · have d3 : decide (0 ≤ z) = true := decide_eq_true k3
              by_cases k4 : z ≤ 10000
              · have d4 : decide (z ≤ 10000) = true := decide_eq_true k4
                have OK := Lib.hid (show okT ⟨x, y, z⟩ = true by unfold okT rateB; simp [k1, k2, k3, k4])
                clear k3 k4
                go_wp2_with (go_at_call 38; refine (upto_any _ _).mono ?_; rintro e w' ⟨rfl, rfl⟩)
                go_meet
                exact ⟨congrArg Value.bool OK.out.symm, rfl⟩
              · have d4 : decide (z ≤ 10000) = false := decide_eq_false k4
                have OK := Lib.hid (show okT ⟨x, y, z⟩ = false by unfold okT rateB; simp [k1, k2]; omega)
                clear k3 k4
                go_wp2_with (go_at_call 38; refine (upto_any _ _).mono ?_; rintro e w' ⟨rfl, rfl⟩)
                go_meet
                exact ⟨congrArg Value.bool OK.out.symm, rfl⟩
            · have d3 : decide (0 ≤ z) = false := decide_eq_false k3
              have OK := Lib.hid (show okT ⟨x, y, z⟩ = false by unfold okT rateB; simp [k1, k2]; omega)
              clear k3
              go_wp2_with (go_at_call 38; refine (upto_any _ _).mono ?_; rintro e w' ⟨rfl, rfl⟩)
              go_meet
              exact ⟨congrArg Value.bool OK.out.symm, rfl⟩
      case rest =>
        obtain ⟨rfl, rfl⟩ := hcut
        have HOK := Lib.hid (show okT (t k) = okT ⟨x, y, z⟩ by rw [HXK.out])
        generalize okT ⟨x, y, z⟩ = q at *
        cases q with
        | false =>
          have F := Lib.hid (HB2.out (by unfold goodT; rw [HOK.out]; rfl))
          go_wp2_with fail
          go_quiet (fail)
          go_wp2
          go_ret
          exact ⟨by rw [F.out]; rfl, below_drewN HW.out.below nq⟩
        | true =>
          clear e1 e2
          by_cases hz : k = 0
          · have HG1 := Lib.hid (show goodTo t (k + 1) = true by unfold goodTo goodT; rw [hgo.out, HOK.out, hz]; rfl)
            have q1 : decide ((0 : Int) < (k : Int)) = false := decide_eq_false (by omega)
            have q2 : decide (0 < k) = false := decide_eq_false (by omega)
            clear hz
            go_wp2_with fail
            go_quiet (fail)
            go_wp2
            refine ⟨⟨k + 1, by go_num, h, HG1, HW.out.step (below_drewN (Below.refl _ _) nq)⟩, by simp [intOf]; omega⟩
          · obtain ⟨j, rfl⟩ : ∃ j, k = j + 1 := ⟨k - 1, by omega⟩
            have hp := HP.out j (by omega)
            have hfr : (t (j + 1)).fr = x := by rw [← HXK.out]
            have HG1 := Lib.hid (show (t j).fr < x → goodTo t (j + 1 + 1) = true from fun hh => by
              show (goodTo t (j + 1) && goodT t (j + 1)) = true
              rw [hgo.out]
              show (true && (okT (t (j + 1)) && (j + 1 == 0 || decide ((t j).fr < (t (j + 1)).fr)))) = true
              rw [HOK.out, hfr, decide_eq_true hh]; simp)
            have HG2 := Lib.hid (show ¬ (t j).fr < x → G = false from fun hh => HB2.out (by
              show (okT (t (j + 1)) && (j + 1 == 0 || decide ((t j).fr < (t (j + 1)).fr))) = false
              rw [hfr, decide_eq_false hh]; simp))
            generalize (t j).fr = p at *
            have q1 : decide ((0 : Int) < ((j + 1 : Nat) : Int)) = true := decide_eq_true (by omega)
            have q2 : decide (0 < j + 1) = true := decide_eq_true (by omega)
            have q3 : IntKind.i64.wrap (((j + 1 : Nat) : Int) - 1) = (j : Int) := by simp only [IntKind.wrap_i64]; omega
            have q4 : (j : Int) < n := by omega
            clear hfr hz
            by_cases hlt2 : p < x
            · have q5 : decide (x ≤ p) = false := decide_eq_false (by omega)
              have G1 := Lib.hid (HG1.out hlt2)
              clear hlt2
              go_wp2_with fail
              go_quiet (fail)
              go_wp2
              refine ⟨⟨j + 1 + 1, by go_num, h, G1, HW.out.step (below_drewN (Below.refl _ _) nq)⟩, by simp [intOf]; omega⟩
            · have q5 : decide (x ≤ p) = true := decide_eq_true (by omega)
              have G1 := Lib.hid (HG2.out hlt2)
              clear hlt2
              go_wp2_with fail
              go_quiet (fail)
              go_wp2
              go_ret
              exact ⟨by rw [G1.out]; rfl, below_drewN HW.out.below nq⟩
    · obtain rfl : n = k := by omega
      have HGG := Lib.hid (HG.out hgo.out)
      obtain ⟨x1, x2, x3⟩ := hbx.out.cells
      clear HG HB hgo
      go_upto_region 10 with fail
      go_cut [6] from 70 to 77 (fun v wx => v = .bool (amtB l && amtB m) ∧ wx = wr)
      case first =>
        cases k1 : amtB l with
        | false =>
          go_wp2_with (go_at_call 38; refine (upto_any _ _).mono ?_; rintro e w' ⟨rfl, rfl⟩)
          go_meet
          exact ⟨by simp [k1], rfl⟩
        | true =>
          go_wp2_with (go_at_call 38; refine (upto_any _ _).mono ?_; rintro e w' ⟨rfl, rfl⟩)
          go_meet
          exact ⟨by simp [k1], rfl⟩
      case rest =>
        obtain ⟨rfl, rfl⟩ := hcut
        have HGL := Lib.hid (show goodL l m = ((amtB l && amtB m) && (m == 0 || decide (l ≤ m))) from rfl)
        generalize (amtB l && amtB m) = q at *
        cases q with
        | false =>
          go_wp2
          go_ret
          exact ⟨by rw [HGG.out, HGL.out]; rfl, hbx.out.below⟩
        | true =>
          by_cases k3 : m = 0
          · have d3 : (m == 0) = true := beq_iff_eq.2 k3
            have d3' : (m != 0) = false := by simp [k3]
            have E := Lib.hid (show G = true by rw [HGG.out, HGL.out, d3]; rfl)
            clear k3
            go_wp2
            go_ret
            exact ⟨by rw [E.out]; rfl, hbx.out.below⟩
          · have d3 : (m == 0) = false := beq_eq_false_iff_ne.2 k3
            have d3' : (m != 0) = true := by simp [k3]
            by_cases k4 : m < l
            · have d4 : decide (m < l) = true := decide_eq_true k4
              have E := Lib.hid (show G = false by rw [HGG.out, HGL.out, d3, decide_eq_false (by omega)]; rfl)
              clear k3 k4
              go_wp2
              go_ret
              exact ⟨by rw [E.out]; rfl, hbx.out.below⟩
            · have d4 : decide (m < l) = false := decide_eq_false k4
              have E := Lib.hid (show G = true by rw [HGG.out, HGL.out, d3, decide_eq_true (by omega)]; rfl)
              clear k3 k4
              go_wp2
              go_ret
              exact ⟨by rw [E.out]; rfl, hbx.out.below⟩

set_option maxRecDepth 100000 in
/-- The document's Check, whatever the schedule. -/
theorem rcheck_any (A : Option Addr) (n c : Nat) (t : Nat → Tier) (l m : Int) (w : World) (hT : Tiers w A n t) :
    Calls Tryz.prog 25 #[feeV A n c l m] w fun e w' => e = .returned (chkN (goodB n t l m)) ∧ Below w.heap.size w w' := by
  by_cases h1 : n < 1
  · have G := Lib.hid (show goodB n t l m = false by unfold goodB; rw [decide_eq_false (by omega)]; rfl)
    have d1 : decide ((n : Int) < 1) = true := decide_eq_true (by omega)
    unfold feeV
    clear hT
    go_enter Tryz.func25, Tryz.ntmps25
    go_wp2
    go_ret
    exact ⟨by rw [G.out]; rfl, (Below.refl _ _).alloc (Nat.le_refl _) _⟩
  · by_cases h6 : 6 < n
    · have G := Lib.hid (show goodB n t l m = false by unfold goodB; rw [decide_eq_false (by omega)]; rfl)
      have d1 : decide ((n : Int) < 1) = false := decide_eq_false (by omega)
      have d2 : decide ((6 : Int) < (n : Int)) = true := decide_eq_true (by omega)
      unfold feeV
      clear hT
      go_enter Tryz.func25, Tryz.ntmps25
      go_wp2
      go_ret
      exact ⟨by rw [G.out]; rfl, (Below.refl _ _).alloc (Nat.le_refl _) _⟩
    · rcases hT with h0 | ⟨b, o, rfl, hb, hc⟩
      · omega
      · by_cases hz : (t 0).fr = 0
        · exact rcheck_in b o n c t l m w hb hc (by omega) (by omega) hz
        · have G := Lib.hid (show goodB n t l m = false by unfold goodB; rw [beq_eq_false_iff_ne.2 hz, Bool.and_false]; rfl)
          have d1 : decide ((n : Int) < 1) = false := decide_eq_false (by omega)
          have d2 : decide ((6 : Int) < (n : Int)) = false := decide_eq_false (by omega)
          obtain ⟨c0, _, _⟩ := hc 0 (by omega)
          rw [Nat.zero_mul, Nat.add_zero] at c0
          have d3 : ((t 0).fr == 0) = false := beq_eq_false_iff_ne.2 hz
          have d4 : ((t 0).fr != 0) = true := by simp [hz]
          unfold feeV
          clear hc hz
          generalize (t 0).fr = x at *
          go_enter Tryz.func25, Tryz.ntmps25
          go_wp2
          go_ret
          exact ⟨by rw [G.out]; rfl, (Below.refl _ _).alloc (Nat.le_refl _) _⟩
end Go.Proofs.YtikkocdbaekjmaaGreatDoor
namespace Go.Proofs.YtikkocdbaekjmaaGreatDoor
open Go.RowKit
theorem one_string (W : World) (x : Int) (b : UInt8) (hb : x = b.toNat) : (convert 75 9 (.slice (some ⟨W.heap.size, 0, none⟩) 1 1)).run Tryz.prog (W.alloc (.cells #[.int .u8 x] 5)) = .ok (.string ⟨#[b]⟩) (W.alloc (.cells #[.int .u8 x] 5)) := by
  subst hb
  exact run_convert_bytes_back _ 75 9 5 ⟨W.heap.size, 0, none⟩ 1 [b] Tryz.underlying75 Tryz.underlying5 Tryz.underlying9 fun j hj => by
    have : j = 0 := by simpa using hj
    subst this
    show (W.alloc _).cell? ⟨W.heap.size, 0, none⟩ = _
    simp
theorem low_digit (n : Nat) : 48 + (n : Int) % 10 = ((UInt8.ofNat (48 + n % 10)).toNat : Int) := by
  have : (UInt8.ofNat (48 + n % 10)).toNat = 48 + n % 10 := by
    rw [UInt8.toNat_ofNat']
    omega
  omega
theorem decDigits_step (k : Nat) : Lib.decDigits (k / 10) = (if k / 10 < 10 then [] else Lib.decDigits (k / 10 / 10)) ++ [UInt8.ofNat (48 + k / 10 % 10)] := by
  rw [Lib.decDigits]
  by_cases h1 : k / 10 < 10
  · rw [dif_pos h1, if_pos h1, Nat.mod_eq_of_lt h1]; rfl
  · rw [dif_neg h1, if_neg h1]
theorem decDigits_first (k : Nat) : Lib.decDigits k = (if k < 10 then [] else Lib.decDigits (k / 10)) ++ [UInt8.ofNat (48 + k % 10)] := by
  rw [Lib.decDigits]
  by_cases h1 : k < 10
  · rw [dif_pos h1, if_pos h1, Nat.mod_eq_of_lt h1]; rfl
  · rw [dif_neg h1, if_neg h1]
theorem str_of {l : List UInt8} {S : ByteArray} (h : l = S.data.toList) : Ending.returned (Value.string S) = .returned (.string ⟨l.toArray⟩) := by
  subst h; cases S; simp
set_option maxRecDepth 100000 in
set_option maxHeartbeats 1000000 in
theorem digits_any (n : Nat) (hn : n ≤ 9223372036854775807) (w : World) :
    Calls Tryz.prog 26 #[.int .i64 n] w fun e w' => e = .returned (.string ⟨(Lib.decDigits n).toArray⟩) ∧ Below w.heap.size w w' := by
  obtain ⟨b0, hb0⟩ : ∃ b : UInt8, b = UInt8.ofNat (48 + n % 10) := ⟨_, rfl⟩
  have hc0 := one_string w (48 + (n : Int) % 10) b0 (by rw [hb0]; exact low_digit n)
  have HD0 := Lib.hid (show Lib.decDigits n = (if n < 10 then [] else Lib.decDigits (n / 10)) ++ [b0] by rw [hb0]; exact decDigits_first n)
  clear hb0
  have HB0 := Lib.hid ((Below.refl w.heap.size w).alloc (Nat.le_refl _) (.cells #[.int .u8 (48 + (n : Int) % 10)] 5))
  go_enter Tryz.func26, Tryz.ntmps26
  go_wp2_with fail
  clear hc0
  go_loopw [0, 3] (fun vn vs wr => ∃ (k : Nat) (S : ByteArray), vn = .int .i64 k ∧ vs = .string S ∧ k ≤ n ∧ Hid (Lib.decDigits n = (if k < 10 then [] else Lib.decDigits (k / 10)) ++ S.data.toList) ∧ Hid (Below w.heap.size w wr)) (fun vn _ _ => (intOf vn).toNat)
  case atStart => exact ⟨n, _, rfl, rfl, Nat.le_refl _, HD0, HB0⟩
  case round =>
    obtain ⟨k, S, rfl, rfl, hk, hd, hb⟩ := hrel
    by_cases h : k < 10
    · have HD := Lib.hid (show Lib.decDigits n = S.data.toList by rw [hd.out, if_pos h]; rfl)
      go_wp2
      go_ret
      exact ⟨str_of HD.out, hb.out⟩
    · have hS : S.size ≤ 19 := by
        have h1 := congrArg List.length hd.out
        have h2 := decDigits_len (u := n) (by omega)
        have h3 : S.data.toList.length = S.size := Array.length_toList
        rw [List.length_append] at h1
        omega
      obtain ⟨b1, hb1⟩ : ∃ b : UInt8, b = UInt8.ofNat (48 + k / 10 % 10) := ⟨_, rfl⟩
      have hc := one_string wr (48 + (k : Int) / 10 % 10) b1 (by have := low_digit (k / 10); rw [hb1, ← this]; omega)
      have HD := Lib.hid (show Lib.decDigits n = (if k / 10 < 10 then [] else Lib.decDigits (k / 10 / 10)) ++ (b1 :: S.data.toList) by rw [hb1, hd.out, if_neg h, decDigits_step k, List.append_assoc]; rfl)
      clear hb1
      have HB := Lib.hid (hb.out.alloc hb.out.size (.cells #[.int .u8 (48 + (k : Int) / 10 % 10)] 5))
      have hk9 : (9 : Int) < k := by omega
      go_wp2_with fail
      go_roundw
      case rel => exact ⟨k / 10, _, by congr 1, rfl, by omega, Lib.hid (by rw [HD.out]; simp), HB⟩
      case measure => simp [intOf]; omega

/-- The document's share of an amount. -/
theorem share_any (a r : Nat) (ha : a ≤ 10000000000) (hr : r ≤ 10000) (w : World) :
    Calls Tryz.prog 27 #[.int .i64 a, .int .i64 r] w fun e w' => e = .returned (.int .i64 (if 10000 < 2 * (a * r % 10000) ∨ 2 * (a * r % 10000) = 10000 ∧ a * r / 10000 % 2 = 1 then a * r / 10000 + 1 else a * r / 10000 : Nat)) ∧ w' = w := by
  have hp : a * r ≤ 10000000000 * 10000 := Nat.mul_le_mul ha hr
  have e1 : IntKind.i64.wrap ((a : Int) * r) = ((a * r : Nat) : Int) := by rw [IntKind.wrap_i64]; rw [← Int.natCast_mul]; omega
  have e2 : (a : Int) * r = ((a * r : Nat) : Int) := by rw [Int.natCast_mul]
  generalize a * r = p at *
  generalize hv : (if 10000 < 2 * (p % 10000) ∨ 2 * (p % 10000) = 10000 ∧ p / 10000 % 2 = 1 then p / 10000 + 1 else p / 10000) = v
  have HV := Lib.hid hv
  clear hv
  go_enter Tryz.func27, Tryz.ntmps27
  go_wp2
  all_goals go_ret
  all_goals
    refine ⟨congrArg (fun z => Ending.returned (Value.int .i64 z)) ?_, rfl⟩
    have h := HV.out
    try simp only [beq_iff_eq, beq_eq_false_iff_ne, ne_eq] at *
    split at h <;> omega
end Go.Proofs.YtikkocdbaekjmaaGreatDoor
