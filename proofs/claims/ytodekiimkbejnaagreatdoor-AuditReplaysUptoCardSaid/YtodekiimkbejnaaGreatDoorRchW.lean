/- remitref16.Check: walked. -/
import Derived.Test.YtodekiimkbejnaaGreatDoorRchP
import Derived.Handy
import Derived.Deep.QuietTactic
import Derived.BigQuiet
namespace Go.Proofs.YtodekiimkbejnaaGreatDoor
open Go.RowKit Go.WideMaps Go.Maps

/-- Between the rounds of the amounts' loop. -/
structure Rm (M : Nat) (lg : Nat → LegV) (w wr : World) (v : Value) (k : Nat) : Prop where
  own : wr.ownsRow M 2 1 v k (amtsL lg k)
  bel : Below M w wr
  amt : amts lg k = true
theorem Rm.step {M k g cap : Nat} {lg : Nat → LegV} {w wr w7 : World} {v : Value} (h : Rm M lg w wr v k) (hM : M ≤ wr.heap.size) (ho : w7.ownsRow M 2 1 (.slice (some ⟨g, 0, none⟩) (k + 1) cap) (k + 1) (amtsL lg k ++ [.int .i64 (lg k).x])) (hg : wr.grownBy w7 v.ownBlock) (ha : amtOk (lg k).x = true) :
    Rm M lg w w7 (.slice (some ⟨g, 0, none⟩) (k + 1) cap) (k + 1) :=
  ⟨ho, h.bel.grown hg hM fun b e => (h.own.lt b e).1, by unfold amts; rw [h.amt, ha]; rfl⟩

set_option maxRecDepth 100000 in
set_option maxHeartbeats 4000000 in
theorem refChk_any (id : ByteArray) (tick : Int) (note : ByteArray) (A : Option Addr) (n c : Nat) (lg : Nat → LegV) (w : World) (hL : LegsAt w A n lg) (hAb : 0 < n → ∀ a, A = some a → a.block < w.heap.size)
    (s1 : id.size ≤ 140737488351232) (s2 : note.size ≤ 140737488351232) (s3 : n ≤ 140737488351232) :
    Calls Tryz.prog 13 #[.agg #[.string id, .int .i64 tick, .string note, .slice A n c]] w (RChk (pOkB id tick note n lg) w) := by
  have hnb := Below.new w (.cells #[.string id, .int .i64 tick, .string note, .slice A n c] 35)
  have hbx := heap_alloc_new w (.cells #[.string id, .int .i64 tick, .string note, .slice A n c] 35)
  have hL2 := hL.below hAb hnb
  have a1 := refPid_any id (w.alloc (.cells #[.string id, .int .i64 tick, .string note, .slice A n c] 35)) (by omega)
  have HNB := Lib.hid hnb
  have HQ := Lib.hid (show pOkB id tick note n lg = (idFit id && tickOk tick && !decide ((255 : Int) < (note.size : Int)) && nOk n && legsOk lg n) from rfl)
  have HAB := Lib.hid (fun (h : 0 < n) a (e : A = some a) => Nat.lt_of_lt_of_le (hAb h a e) hnb.size)
  have HZ := Lib.hid (show w.heap.size < (w.alloc (.cells #[.string id, .int .i64 tick, .string note, .slice A n c] 35)).heap.size by simp)
  have HBX := Lib.hid hbx
  have HL2 := Lib.hid hL2
  generalize pOkB id tick note n lg = ok at *
  clear hL hL2 hAb hnb hbx s3
  cases h1 : idFit id with
  | false =>
    have HF := Lib.hid (show ok = false by rw [HQ.out, h1]; rfl)
    rw [h1] at a1
    clear h1
    go_enter Tryz.func13, Tryz.ntmps13
    go_wp2_with fail
    refine a1.mono ?_
    rintro e w' ⟨rfl, rfl⟩
    go_wp2
    go_ret
    exact RChk.bad 26 rfl rfl HF.out HNB.out
  | true =>
    have H1 := Lib.hid h1
    rw [h1] at a1
    clear h1
    cases t1 : decide (tick < 0) with
    | true =>
      have HF := Lib.hid (show ok = false by rw [HQ.out]; unfold tickOk; rw [t1]; simp)
      go_enter Tryz.func13, Tryz.ntmps13
      go_wp2_with fail
      refine a1.mono ?_
      rintro e w' ⟨rfl, rfl⟩
      go_wp2
      go_ret
      exact RChk.bad 33 rfl rfl HF.out HNB.out
    | false =>
    cases t2 : decide ((1099511627776 : Int) < tick) with
    | true =>
      have HF := Lib.hid (show ok = false by rw [HQ.out]; unfold tickOk; rw [t2]; simp)
      go_enter Tryz.func13, Tryz.ntmps13
      go_wp2_with fail
      refine a1.mono ?_
      rintro e w' ⟨rfl, rfl⟩
      go_wp2
      go_ret
      exact RChk.bad 33 rfl rfl HF.out HNB.out
    | false =>
    cases t3 : decide ((255 : Int) < (note.size : Int)) with
    | true =>
      have HF := Lib.hid (show ok = false by rw [HQ.out, t3]; simp)
      go_enter Tryz.func13, Tryz.ntmps13
      go_wp2_with fail
      refine a1.mono ?_
      rintro e w' ⟨rfl, rfl⟩
      go_wp2
      go_ret
      exact RChk.bad 3 rfl rfl HF.out HNB.out
    | false =>
    cases t4 : decide ((n : Int) < 2) with
    | true =>
      have HF := Lib.hid (show ok = false by rw [HQ.out]; unfold nOk; rw [t4]; simp)
      go_enter Tryz.func13, Tryz.ntmps13
      go_wp2_with fail
      refine a1.mono ?_
      rintro e w' ⟨rfl, rfl⟩
      go_wp2
      go_ret
      exact RChk.bad 24 rfl rfl HF.out HNB.out
    | false =>
    cases t5 : decide ((8 : Int) < (n : Int)) with
    | true =>
      have HF := Lib.hid (show ok = false by rw [HQ.out]; unfold nOk; rw [t5]; simp)
      go_enter Tryz.func13, Tryz.ntmps13
      go_wp2_with fail
      refine a1.mono ?_
      rintro e w' ⟨rfl, rfl⟩
      go_wp2
      go_ret
      exact RChk.bad 24 rfl rfl HF.out HNB.out
    | false =>
    have hn8 : n ≤ 8 := by have := of_decide_eq_false t5; omega
    have hn2 : 2 ≤ n := by have := of_decide_eq_false t4; omega
    have HQ2 := Lib.hid (show ok = legsOk lg n by
      rw [HQ.out, H1.out, t3]; unfold tickOk nOk; rw [t1, t2, t4, t5]; rfl)
    clear HQ H1
    obtain ⟨gA, oA, rfl, hgA, hcA⟩ := HL2.out (by omega)
    have HCA := Lib.hid hcA
    clear hcA HL2
    go_enter Tryz.func13, Tryz.ntmps13
    go_wp2_with fail
    refine a1.mono ?_
    rintro e w' ⟨rfl, rfl⟩
    clear a1
    generalize w.alloc (.cells #[.string id, .int .i64 tick, .string note, .slice (some ⟨gA, oA, none⟩) n c] 35) = w1 at *
    have f0 : w1.cell? ⟨w.heap.size, 1, none⟩ = some (.int .i64 tick) := by unfold World.cell?; rw [HBX.out]; rfl
    have f1 : w1.cell? ⟨w.heap.size, 2, none⟩ = some (.string note) := by unfold World.cell?; rw [HBX.out]; rfl
    have f2 : w1.cell? ⟨w.heap.size, 3, none⟩ = some (.slice (some ⟨gA, oA, none⟩) n c) := by unfold World.cell?; rw [HBX.out]; rfl
    have HF3 := Lib.hid (fun W (hb : Below w1.heap.size w1 W) => (show W.cell? ⟨w.heap.size, 3, none⟩ = some (.slice (some ⟨gA, oA, none⟩) n c) from (hb.cell (by exact HZ.out)).trans f2))
    go_wp2_with fail
    clear f0 f1 f2 t1 t2 t3 t4 t5
    go_loopw [3] (fun vi wr => ∃ k : Nat, vi = .int .i64 k ∧ k ≤ n ∧ Hid (Below w1.heap.size w1 wr ∧ accs lg k = true)) (fun vi _ => n - (intOf vi).toNat)
    case atStart => exact ⟨0, rfl, Nat.zero_le _, Lib.hid ⟨Below.refl _ _, rfl⟩⟩
    case round =>
      obtain ⟨k, rfl, hk, hh⟩ := hrel
      have hw := hh.out.1
      have hsz := hw.size
      have f3 := HF3.out _ hw
      by_cases h : k < n
      · obtain ⟨c0, _, hok⟩ := HCA.out k h
        have c0' := (hw.cell (p := ⟨gA, oA + k * 2, none⟩) (by exact hgA)).trans c0
        have hls := hok.1
        have b1 := refAcc_any (lg k).a wr (by omega)
        have HW := Lib.hid hw
        have HA := Lib.hid hh.out.2
        clear hh hw c0 hok
        cases e1 : acFit (lg k).a with
        | false =>
          have HFF := Lib.hid (show ok = false by rw [HQ2.out]; unfold legsOk; rw [accs_false h e1]; rfl)
          rw [e1] at b1
          clear e1
          go_wp2_with fail
          refine b1.mono ?_
          clear b1
          rintro e w2 ⟨rfl, hb⟩
          have HW2 := Lib.hid (HNB.out.trans ((HW.out.trans (hb.mono HW.out.size)).mono HNB.out.size))
          clear hb f3 c0'
          go_wp2
          go_ret
          exact RChk.bad 20 rfl rfl HFF.out HW2.out
        | true =>
          have HA2 := Lib.hid (show accs lg (k + 1) = true by unfold accs; rw [HA.out, e1]; rfl)
          rw [e1] at b1
          clear e1
          go_wp2_with fail
          refine b1.mono ?_
          clear b1
          rintro e w2 ⟨rfl, hb⟩
          have HW2 := Lib.hid (HW.out.trans (hb.mono HW.out.size))
          clear hb f3 c0'
          go_wp2
          go_roundw
          case rel => exact ⟨k + 1, by go_num, by omega, Lib.hid ⟨HW2.out, HA2.out⟩⟩
          case measure => simp [intOf]; omega
      · obtain rfl : k = n := by omega
        have HACC := Lib.hid hh.out.2
        have HW := Lib.hid hw
        clear hh hw hk h
        go_wp2_with fail
        clear f3
        obtain ⟨wo, rfl⟩ : ∃ wo : World, wo = wr := ⟨_, rfl⟩
        go_loopw [5, 4, 6] (fun vi v _ wr => ∃ j : Nat, vi = .int .i64 j ∧ j ≤ k ∧ Hid (Rm wo.heap.size lg wo wr v j)) (fun vi _ _ _ => k - (intOf vi).toNat)
        case atStart => exact ⟨0, rfl, Nat.zero_le _, Lib.hid ⟨World.ownsRow_nil _ _ _ _, Below.refl _ _, rfl⟩⟩
        case round =>
          obtain ⟨j, rfl, hj, hh⟩ := hrel
          have hw := HW.out.trans (hh.out.bel.mono HW.out.size)
          have hsz2 := hw.size
          have hszo := hh.out.bel.size
          have f3 := HF3.out _ hw
          by_cases h : j < k
          · obtain ⟨_, c1, hok⟩ := HCA.out j h
            have c1' := (hw.cell (p := ⟨gA, oA + j * 2 + 1, none⟩) (by exact hgA)).trans c1
            have hbt := hok.2
            have HO := Lib.hid hh.out.own
            have HST := Lib.hid (fun g cap w7 ho hg ha => hh.out.step (g := g) (cap := cap) (w7 := w7) hszo ho hg ha)
            have HAF := Lib.hid (fun e : amtOk (lg j).x = false => (show ok = false by rw [HQ2.out]; unfold legsOk; rw [amts_false h e, Bool.and_false]; rfl))
            have HAO := Lib.hid (show amtOk (lg j).x = (!((lg j).x == 0) && !decide ((4611686018427387904 : Int) < (lg j).x) && !decide ((lg j).x < -4611686018427387904)) from rfl)
            have HBW := Lib.hid (HNB.out.trans (hw.mono HNB.out.size))
            generalize amtOk (lg j).x = aok at *
            generalize (lg j).x = x at *
            generalize amtsL lg j = xs at *
            clear hh hw c1 hok
            cases x1 : (x == 0) with
            | true =>
              have HFF := Lib.hid (HAF.out (by rw [HAO.out, x1]; rfl))
              go_wp2
              go_ret
              exact RChk.bad 9 rfl rfl HFF.out HBW.out
            | false =>
            cases x2 : decide (x < -4611686018427387904) with
            | true =>
              have HFF := Lib.hid (HAF.out (by rw [HAO.out, x2]; simp))
              go_wp2
              go_ret
              exact RChk.bad 9 rfl rfl HFF.out HBW.out
            | false =>
            cases x3 : decide ((4611686018427387904 : Int) < x) with
            | true =>
              have HFF := Lib.hid (HAF.out (by rw [HAO.out, x3]; simp))
              go_wp2
              go_ret
              exact RChk.bad 9 rfl rfl HFF.out HBW.out
            | false =>
              have HT := Lib.hid (show aok = true by rw [HAO.out, x1, x2, x3]; rfl)
              have hj1 : j + 1 ≤ 4398046511104 := by omega
              go_wp2_with (first
                | (at_builtin; refine append_amt rfl _ _ rfl wo.heap.size j _ xs rfl HO.out x rfl hj1 hszo ?_; intro g7 cap7 w7 ho7 hg7 hat7)
                | go_in)
              exact ⟨⟨j + 1, by go_num, by omega, Lib.hid (HST.out g7 cap7 w7 ho7 hg7 HT.out)⟩, by simp [intOf]; omega⟩
          · obtain rfl : j = k := by omega
            have HAMT := Lib.hid hh.out.amt
            obtain ⟨A4, c4, rfl, hI⟩ := ints_of_row hh.out.own
            have HI := Lib.hid (fun w' (hb : Below wr.heap.size wr w') => hI.below hb)
            have HW2 := Lib.hid hw
            clear hh hw hj h hI
            go_wp2_with fail
            clear f3
            obtain ⟨wp, rfl⟩ : ∃ wp : World, wp = wr := ⟨_, rfl⟩
            go_loopw [7, 8] (fun vi _ wr => ∃ i : Nat, vi = .int .i64 i ∧ i ≤ j ∧ Hid (Below wp.heap.size wp wr ∧ apart lg i)) (fun vi _ _ => j - (intOf vi).toNat)
            case atStart => exact ⟨0, rfl, Nat.zero_le _, Lib.hid ⟨Below.refl _ _, fun i h => by omega⟩⟩
            case round =>
              obtain ⟨i, rfl, hi, hh⟩ := hrel
              have hw := HW2.out.trans (hh.out.1.mono HW2.out.size)
              have f3 := HF3.out _ hw
              by_cases h : i < j
              · have HAP := Lib.hid hh.out.2
                have HBP := Lib.hid hh.out.1
                clear hh hw
                go_wp2_with fail
                clear f3
                obtain ⟨wq, rfl⟩ : ∃ wq : World, wq = wr := ⟨_, rfl⟩
                go_loopw [8] (fun vi wr => ∃ q : Nat, vi = .int .i64 q ∧ q ≤ i ∧ Hid (Below wp.heap.size wp wr ∧ ∀ r, r < q → ((lg i).a.toList == (lg r).a.toList) = false)) (fun vi _ => i - (intOf vi).toNat)
                case atStart => exact ⟨0, rfl, Nat.zero_le _, Lib.hid ⟨HBP.out, fun r h => by omega⟩⟩
                case round =>
                  obtain ⟨q, rfl, hq, hh⟩ := hrel
                  have hw := HW2.out.trans (hh.out.1.mono HW2.out.size)
                  have f3 := HF3.out _ hw
                  by_cases h2 : q < i
                  · have c1 := (hw.cell (p := ⟨gA, oA + i * 2, none⟩) (by exact hgA)).trans (HCA.out i h).1
                    have c2 := (hw.cell (p := ⟨gA, oA + q * 2, none⟩) (by exact hgA)).trans (HCA.out q (by omega)).1
                    have hi0 : (0 : Int) ≤ (i : Int) := by omega
                    have hi1 : (i : Int) < (j : Int) := by omega
                    have hq0 : (0 : Int) ≤ (q : Int) := by omega
                    have hq1 : (q : Int) < (j : Int) := by omega
                    have HBP2 := Lib.hid hh.out.1
                    have HPQ := Lib.hid hh.out.2
                    have HBW := Lib.hid (HNB.out.trans (hw.mono HNB.out.size))
                    cases e1 : ((lg i).a.toList == (lg q).a.toList) with
                    | true =>
                      have HFF := Lib.hid (show ok = false by
                        rw [HQ2.out]; unfold legsOk
                        have : (Maps.size (seenD lg j) == j) = false := beq_eq_false_iff_ne.2 fun e => by
                          have := (seenD_size lg j).2.1 e i h q h2
                          rw [e1] at this; cases this
                        rw [this, Bool.and_false, Bool.false_and])
                      generalize (lg i).a = ai at *
                      generalize (lg q).a = aq at *
                      clear hh hw
                      go_wp2
                      go_quiet (fail)
                      go_wp2
                      go_ret
                      exact RChk.bad 24 rfl rfl HFF.out (below_drewN HBW.out _)
                    | false =>
                      have HNX := Lib.hid (show ∀ r, r < q + 1 → ((lg i).a.toList == (lg r).a.toList) = false from fun r hr => by
                        by_cases e : r = q
                        · subst e; exact e1
                        · exact HPQ.out r (by omega))
                      generalize hgi : (lg i).a = ai at *
                      generalize (lg q).a = aq at *
                      clear hh hw hgi
                      go_wp2
                      go_quiet (fail)
                      go_wp2
                      exact ⟨⟨q + 1, by go_num, by omega, Lib.hid ⟨below_drewN HBP2.out _, HNX.out⟩⟩, by simp [intOf]; omega⟩
                  · obtain rfl : q = i := by omega
                    have HAP2 := Lib.hid (show apart lg (q + 1) from fun x hx y hy => by
                      by_cases e : x = q
                      · subst e; exact hh.out.2 y hy
                      · exact HAP.out x (by omega) y hy)
                    have HBP2 := Lib.hid hh.out.1
                    clear hh hw
                    go_wp2
                    go_roundw
                    case rel => exact ⟨q + 1, by go_num, by omega, Lib.hid ⟨HBP2.out, HAP2.out⟩⟩
                    case measure => simp [intOf]; omega
              · obtain rfl : i = j := by omega
                have HDI := Lib.hid ((seenD_size lg i).2.2 hh.out.2)
                have HBP := Lib.hid hh.out.1
                have HBW := Lib.hid (HNB.out.trans (hw.mono HNB.out.size))
                have HOK := Lib.hid (show ok = (sgn (sumL lg i) == 0) by
                  rw [HQ2.out]; unfold legsOk
                  rw [HACC.out, HAMT.out, HDI.out, beq_self_eq_true]; rfl)
                have b1 := sum4_any A4 i c4 (fun i => (lg i).x) wr (HI.out _ HBP.out) (fun q hq => (HCA.out q hq).2.2.2) (by omega)
                rw [← sumL_sumF] at b1
                clear hh hw
                go_wp2_with fail
                generalize sumL lg i = S at *
                by_cases hS : -9223372036854775808 ≤ S ∧ S ≤ 9223372036854775807
                · rw [fits_in hS.1 hS.2] at b1
                  refine b1.mono ?_
                  clear b1
                  rintro e w5 ⟨rfl, hb⟩
                  have HB5 := Lib.hid (HBW.out.trans (hb.mono HBW.out.size))
                  clear hb f3 hS
                  cases e0 : (S == 0) with
                  | true =>
                    have HFF := Lib.hid (show ok = true by rw [HOK.out, beq_iff_eq.1 e0]; rfl)
                    have e0' : (S != 0) = false := by unfold bne; rw [e0]; rfl
                    go_wp2
                    go_ret
                    exact RChk.good rfl HFF.out HB5.out
                  | false =>
                    have HFF := Lib.hid (show ok = false by
                      rw [HOK.out]; unfold sgn; rw [if_neg (beq_eq_false_iff_ne.1 e0)]; split <;> rfl)
                    have e0' : (S != 0) = true := by unfold bne; rw [e0]; rfl
                    go_wp2
                    go_ret
                    exact RChk.bad 24 rfl rfl HFF.out HB5.out
                · rw [fits_out (by omega)] at b1
                  refine b1.mono ?_
                  clear b1
                  rintro e w5 ⟨rfl, hb⟩
                  have HB5 := Lib.hid (HBW.out.trans (hb.mono HBW.out.size))
                  have HFF := Lib.hid (show ok = false by
                    rw [HOK.out]; unfold sgn; rw [if_neg (by omega)]; split <;> rfl)
                  clear hb f3 hS
                  go_wp2
                  go_ret
                  exact RChk.bad 24 rfl rfl HFF.out HB5.out
end Go.Proofs.YtodekiimkbejnaaGreatDoor
