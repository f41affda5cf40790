/- IdentBack, walked: whatever the texts and lists, the law answers true. -/
import Derived.Test.YtfcalpfpfibbfaaDoorBackP
namespace Go.Proofs.YtfcalpfpfibbfaaDoor
open Go.RowKit

/-- A slice value of address A whose first n cells hold f. -/
def Sl (w : World) (A : Option Addr) (n : Nat) (f : Nat → Value) : Prop :=
  0 < n → ∃ g o, A = some ⟨g, o, none⟩ ∧ g < w.heap.size ∧ ∀ i, i < n → w.cell? ⟨g, o + i, none⟩ = some (f i)

theorem conv1 (w : World) (x : Int) : (convert 35 9 (.slice (some ⟨w.heap.size, 0, none⟩) 1 1)).run Tryd.prog (w.alloc (.cells #[.int .u8 x] 5)) = .ok (.string (strOfNums [x])) (w.alloc (.cells #[.int .u8 x] 5)) := by
  refine run_convert_bytes_arg _ 35 5 (by kernel_rfl) (by kernel_rfl) _ _ 1 1 [x] rfl ?_ 9 (by kernel_rfl)
  intro i hi
  obtain rfl : i = 0 := by omega
  unfold World.cell?; rw [heap_alloc_new]; rfl

/-- What has been put together so far: s's first j bytes, and not too much. -/
def Loose (s ls : ByteArray) (j m : Nat) : Prop := left ls = nrmL s j ∧ ls.size ≤ 6 * j + m
theorem add_blank {s ls : ByteArray} {j m : Nat} (h : Loose s ls j m) : Loose s (ls ++ { data := #[32] }) j (m + 1) :=
  ⟨by rw [left_app, left_blank, List.append_nil]; exact h.1, by rw [ByteArray.size_append]; have := h.2; show _ + 1 ≤ _; omega⟩
theorem add_byte {s ls : ByteArray} {j m n : Nat} {x : Int} (h : Loose s ls j m) (h0 : 0 ≤ x) (h1 : x < 256) (hx : nrm x.toNat = [(n : Int)]) (hs : m ≤ 5 ∧ nrmL s (j + 1) = nrmL s j ++ [(n : Int)]) : Loose s (ls ++ strOfNums [x]) (j + 1) 0 :=
  ⟨by rw [left_app, left_one x h0 h1, hx, h.1, hs.2], by rw [ByteArray.size_append, strOfNums_size]; have := h.2; have := hs.1; simp only [List.length_singleton]; omega⟩
theorem loose_done {s ls : ByteArray} (hg : good s) (h : Loose s ls s.size 0) : nrmS (ls ++ { data := #[32] }) = s := by
  show strOfNums (left _) = s
  rw [left_app, left_blank, List.append_nil, h.1, nums_good hg]

set_option maxRecDepth 100000 in
set_option maxHeartbeats 4000000 in
theorem back_walk (B : Nat → Addr) (c b : ByteArray) (A1 : Option Addr) (n1 k1 : Nat) (z : Nat → Int) (A2 : Option Addr) (n2 k2 : Nat) (y : Nat → Bool) (o : ByteArray) (w : World) (hE : Env3 w B)
    (hc : c.size ≤ 9223372036854770000) (hb0 : b.size ≤ 9223372036854770000) (_ho : o.size ≤ 9223372036854770000) (hA1 : Sl w A1 n1 (fun i => .int .i64 (z i))) (hA2 : Sl w A2 n2 (fun i => .bool (y i))) (_hn1 : n1 ≤ 9223372036854775807) (_hn2 : n2 ≤ 9223372036854775807) :
    Calls Tryd.prog 4 #[.string c, .string b, .slice A1 n1 k1, .slice A2 n2 k2, .string o] w fun e w' => e = .returned (.bool true) ∧ Below w.heap.size w w' := by
  have a1 := fun w h => make_any B c b w h (by omega) (by omega)
  have HE := Lib.hid hE; clear hE
  unfold mkV at a1
  cases hm : mkO c b with
  | none =>
    rw [hm] at a1
    simp only at a1
    clear hm hA1 hA2
    have he := fun w => same_err w (B 0)
    go_enter Tryd.func4, Tryd.ntmps4
    go_wp2_with fail
    refine (lives_any B _ HE.out).mono ?_
    rintro e w1 ⟨rfl, hb1⟩
    have HE1 := Lib.hid (HE.out.below hb1)
    go_wp2_with fail
    refine (a1 _ HE1.out).mono ?_
    rintro e w2 ⟨rfl, hb2⟩
    have c0 := (HE1.out.below hb2).cell 0 (by decide)
    have HB2 := Lib.hid (hb1.trans (hb2.mono hb1.size)); clear hb1 hb2
    go_wp2_with fail
    go_ret
    exact ⟨rfl, HB2.out⟩
  | some s =>
    rw [hm] at a1
    simp only at a1
    obtain ⟨d, hp, hd, es⟩ : ∃ d, prt c b = true ∧ digO (b ++ c) = some d ∧ c ++ d ++ b = s := by
      cases hp : prt c b
      · rw [mkO_none hp] at hm; cases hm
      · obtain ⟨d, hd, _⟩ := prt_dig hp
        rw [mkO_some hp hd] at hm
        exact ⟨d, rfl, hd, Option.some.inj hm⟩
    obtain ⟨ds2, _⟩ := digO_dig hd
    obtain ⟨ps1, ps2, ps3⟩ := prt_size hp
    obtain ⟨x0, x1, x2, x3⟩ := three (c := c) (d := d) (b := b) ps1 ds2
    have ck := chk_made hp hd
    have hgood := made_good hp hd
    have hoth := fun o => chk_other (o := o) hp hd
    rw [es] at x0 x1 x2 x3 ck hgood
    have HM := Lib.hid hm; have HP := Lib.hid hp; have HD := Lib.hid hd; have ES := Lib.hid es; have HO := Lib.hid hoth
    clear hm hp hd es hoth
    have s34 : s.size ≤ 34 := by omega
    have X0 := Lib.hid x0
    have x0n : ((s.size : Int) != 4 + (b.size : Int)) = false := by rw [bne_eq_false_iff_eq]; omega
    have x04 : (4 : Int) ≤ (s.size : Int) := by omega
    clear x0
    have a3 := fun w h => check_any B s w h (by omega)
    rw [ck, ev_0] at a3
    have HG := Lib.hid hgood
    have a4 := fun w h => normal_any B s w h (by omega)
    rw [normV_eq, show nrmS s = s from nrmS_good hgood, ck, ev_0, show nmS s = s by unfold nmS; rw [nrmS_good hgood, if_pos ck]] at a4
    have A3 := Lib.hid a3; have A4 := Lib.hid a4; have CK := Lib.hid ck
    clear a3 a4 ck hgood
    have HA1 := Lib.hid hA1; have HA2 := Lib.hid hA2; clear hA1 hA2
    go_enter Tryd.func4, Tryd.ntmps4
    go_wp2_with fail
    refine (lives_any B _ HE.out).mono ?_
    rintro e w1 ⟨rfl, hb1⟩
    have HE1 := Lib.hid (HE.out.below hb1)
    go_wp2_with fail
    refine (a1 _ HE1.out).mono ?_
    rintro e w2 ⟨rfl, hb2⟩
    have HB2 := Lib.hid (hb1.trans (hb2.mono hb1.size)); clear hb1 hb2
    go_wp2_with fail
    refine (A3.out _ (HE.out.below HB2.out)).mono ?_
    rintro e w3 ⟨rfl, hb3⟩
    have HB3 := Lib.hid (HB2.out.trans (hb3.mono HB2.out.size)); clear hb3
    go_wp2_with fail
    go_loopw [14, 15, 16, 17] (fun l i _ _ wr => ∃ (j : Nat) (ls : ByteArray), j ≤ s.size ∧ i = .int .i64 j ∧ l = .string ls ∧ Hid (Loose s ls j 0) ∧ Below w.heap.size w wr) (fun _ i _ _ _ => s.size - (intOf i).toNat)
    case atStart => exact ⟨0, _, Nat.zero_le _, rfl, rfl, ⟨rfl, Nat.zero_le _⟩, HB3.out⟩
    case round =>
      obtain ⟨j, ls, hj, rfl, rfl, hloose, hb⟩ := hrel
      have hsz := hb.size
      have kconv := conv1
      have ksz : ∀ x : Int, (strOfNums [x]).size = 1 := fun x => strOfNums_size [x]
      by_cases hlt : j < s.size
      · have hbyt : byt s j = s[j].toNat := by unfold byt; rw [dif_pos hlt]
        have hu8 := byt_lt s j
        have hgd : alnum (byt s j) = true := HG.out j hlt
        have hstep := nrmL_good HG.out hlt
        rw [hbyt] at hgd hu8 hstep
        have hn1' : nrm ((s[j].toNat : Int)).toNat = [(s[j].toNat : Int)] := by rw [Int.toNat_natCast, alnum_nrm hgd]
        have hn2' : (65 : Int) ≤ (s[j].toNat : Int) → (s[j].toNat : Int) ≤ 90 → nrm ((s[j].toNat : Int) + 32).toNat = [(s[j].toNat : Int)] := fun q1 q2 => by
          rw [show ((s[j].toNat : Int) + 32).toNat = s[j].toNat + 32 by omega, small_nrm (by unfold cap; simp; omega)]
        have hq2 : (65 : Int) ≤ (s[j].toNat : Int) → (s[j].toNat : Int) ≤ 90 := fun q1 => by unfold alnum cap dig at hgd; simp at hgd; omega
        have HBYT := Lib.hid hbyt; have HGD := Lib.hid hgd; clear hbyt hgd
        have hls := hloose.out.2
        by_cases h1 : j < n1
        · obtain ⟨g1, o1, hA1', hg1, hc1⟩ := HA1.out (by omega)
          have e1 : wr.cell? ⟨g1, o1 + j, none⟩ = some (.int .i64 (z j)) := (hb.cell (by exact hg1)).trans (hc1 j h1)
          have HC1 := Lib.hid hc1; clear hc1
          generalize z j = zj at e1
          go_wp2_with fail
          go_loop [14, 16] (fun l k => ∃ (m : Nat) (ls2 : ByteArray), m ≤ 5 ∧ k = .int .i64 m ∧ l = .string ls2 ∧ Hid (Loose s ls2 j m)) (fun _ k => 5 - (intOf k).toNat)
          case atStart => exact ⟨0, ls, by omega, rfl, rfl, hloose⟩
          case round =>
            obtain ⟨m, ls2, hm5, rfl, rfl, hl2⟩ := hrel
            have hl2s := hl2.out.2
            cases t1 : decide ((m : Int) < zj) with
            | true =>
              have t1' := of_decide_eq_true t1
              cases t2 : decide ((m : Int) < 5) with
              | true =>
                have t2' := of_decide_eq_true t2
                have AB := Lib.hid (add_blank hl2.out)
                go_wp2
                go_round
                case rel => exact ⟨m + 1, _, by omega, by go_num, rfl, AB.out⟩
                case measure => simp [intOf]; omega
              | false =>
                have t2' := of_decide_eq_false t2
                have up := add_byte (x := (s[j].toNat : Int)) hl2.out (by omega) (by omega) hn1' ⟨hm5, hstep⟩
                have up2 := fun q1 q2 => add_byte (x := (s[j].toNat : Int) + 32) hl2.out (by omega) (by omega) (hn2' q1 q2) ⟨hm5, hstep⟩
                have UP := Lib.hid up; have UP2 := Lib.hid up2; clear up up2
                by_cases h2 : j < n2
                · obtain ⟨g2, o2, hA2', hg2, hc2⟩ := HA2.out (by omega)
                  have e2 : wr.cell? ⟨g2, o2 + j, none⟩ = some (.bool (y j)) := (hb.cell (by exact hg2)).trans (hc2 j h2)
                  have HC2 := Lib.hid hc2; clear hc2
                  cases hy : y j with
                  | false =>
                    rw [hy] at e2
                    go_wp2
                    go_roundw
                    case rel => first | exact ⟨j + 1, by omega, by omega, UP.out, hb.alloc hsz _⟩ | exact ⟨j + 1, _, by omega, by go_num, rfl, UP.out, hb.alloc hsz _⟩
                    case measure => simp [intOf]; omega
                  | true =>
                    rw [hy] at e2
                    cases hcap : decide ((65 : Int) ≤ (s[j].toNat : Int)) with
                    | false =>
                      go_wp2
                      go_roundw
                      case rel => first | exact ⟨j + 1, by omega, by omega, UP.out, hb.alloc hsz _⟩ | exact ⟨j + 1, _, by omega, by go_num, rfl, UP.out, hb.alloc hsz _⟩
                      case measure => simp [intOf]; omega
                    | true =>
                      have q1 := of_decide_eq_true hcap
                      have q2 : (s[j].toNat : Int) ≤ 90 := hq2 q1
                      go_wp2
                      go_roundw
                      case rel => first | exact ⟨j + 1, by omega, by omega, (UP2.out q1 q2), hb.alloc hsz _⟩ | exact ⟨j + 1, _, by omega, by go_num, rfl, (UP2.out q1 q2), hb.alloc hsz _⟩
                      case measure => simp [intOf]; omega
                · have h2' : ¬ (j : Int) < (n2 : Int) := by omega
                  go_wp2
                  go_roundw
                  case rel => first | exact ⟨j + 1, by omega, by omega, UP.out, hb.alloc hsz _⟩ | exact ⟨j + 1, _, by omega, by go_num, rfl, UP.out, hb.alloc hsz _⟩
                  case measure => simp [intOf]; omega
            | false =>
              have t1' := of_decide_eq_false t1
              have up := add_byte (x := (s[j].toNat : Int)) hl2.out (by omega) (by omega) hn1' ⟨hm5, hstep⟩
              have up2 := fun q1 q2 => add_byte (x := (s[j].toNat : Int) + 32) hl2.out (by omega) (by omega) (hn2' q1 q2) ⟨hm5, hstep⟩
              have UP := Lib.hid up; have UP2 := Lib.hid up2; clear up up2
              by_cases h2 : j < n2
              · obtain ⟨g2, o2, hA2', hg2, hc2⟩ := HA2.out (by omega)
                have e2 : wr.cell? ⟨g2, o2 + j, none⟩ = some (.bool (y j)) := (hb.cell (by exact hg2)).trans (hc2 j h2)
                have HC2 := Lib.hid hc2; clear hc2
                cases hy : y j with
                | false =>
                  rw [hy] at e2
                  go_wp2
                  go_roundw
                  case rel => first | exact ⟨j + 1, by omega, by omega, UP.out, hb.alloc hsz _⟩ | exact ⟨j + 1, _, by omega, by go_num, rfl, UP.out, hb.alloc hsz _⟩
                  case measure => simp [intOf]; omega
                | true =>
                  rw [hy] at e2
                  cases hcap : decide ((65 : Int) ≤ (s[j].toNat : Int)) with
                  | false =>
                    go_wp2
                    go_roundw
                    case rel => first | exact ⟨j + 1, by omega, by omega, UP.out, hb.alloc hsz _⟩ | exact ⟨j + 1, _, by omega, by go_num, rfl, UP.out, hb.alloc hsz _⟩
                    case measure => simp [intOf]; omega
                  | true =>
                    have q1 := of_decide_eq_true hcap
                    have q2 : (s[j].toNat : Int) ≤ 90 := hq2 q1
                    go_wp2
                    go_roundw
                    case rel => first | exact ⟨j + 1, by omega, by omega, (UP2.out q1 q2), hb.alloc hsz _⟩ | exact ⟨j + 1, _, by omega, by go_num, rfl, (UP2.out q1 q2), hb.alloc hsz _⟩
                    case measure => simp [intOf]; omega
              · have h2' : ¬ (j : Int) < (n2 : Int) := by omega
                go_wp2
                go_roundw
                case rel => first | exact ⟨j + 1, by omega, by omega, UP.out, hb.alloc hsz _⟩ | exact ⟨j + 1, _, by omega, by go_num, rfl, UP.out, hb.alloc hsz _⟩
                case measure => simp [intOf]; omega
        · have h1' : ¬ (j : Int) < (n1 : Int) := by omega
          have up := add_byte (x := (s[j].toNat : Int)) hloose.out (by omega) (by omega) hn1' ⟨(Nat.zero_le _), hstep⟩
          have up2 := fun q1 q2 => add_byte (x := (s[j].toNat : Int) + 32) hloose.out (by omega) (by omega) (hn2' q1 q2) ⟨(Nat.zero_le _), hstep⟩
          have UP := Lib.hid up; have UP2 := Lib.hid up2; clear up up2
          by_cases h2 : j < n2
          · obtain ⟨g2, o2, hA2', hg2, hc2⟩ := HA2.out (by omega)
            have e2 : wr.cell? ⟨g2, o2 + j, none⟩ = some (.bool (y j)) := (hb.cell (by exact hg2)).trans (hc2 j h2)
            have HC2 := Lib.hid hc2; clear hc2
            cases hy : y j with
            | false =>
              rw [hy] at e2
              go_wp2
              go_roundw
              case rel => first | exact ⟨j + 1, by omega, by omega, UP.out, hb.alloc hsz _⟩ | exact ⟨j + 1, _, by omega, by go_num, rfl, UP.out, hb.alloc hsz _⟩
              case measure => simp [intOf]; omega
            | true =>
              rw [hy] at e2
              cases hcap : decide ((65 : Int) ≤ (s[j].toNat : Int)) with
              | false =>
                go_wp2
                go_roundw
                case rel => first | exact ⟨j + 1, by omega, by omega, UP.out, hb.alloc hsz _⟩ | exact ⟨j + 1, _, by omega, by go_num, rfl, UP.out, hb.alloc hsz _⟩
                case measure => simp [intOf]; omega
              | true =>
                have q1 := of_decide_eq_true hcap
                have q2 : (s[j].toNat : Int) ≤ 90 := hq2 q1
                go_wp2
                go_roundw
                case rel => first | exact ⟨j + 1, by omega, by omega, (UP2.out q1 q2), hb.alloc hsz _⟩ | exact ⟨j + 1, _, by omega, by go_num, rfl, (UP2.out q1 q2), hb.alloc hsz _⟩
                case measure => simp [intOf]; omega
          · have h2' : ¬ (j : Int) < (n2 : Int) := by omega
            go_wp2
            go_roundw
            case rel => first | exact ⟨j + 1, by omega, by omega, UP.out, hb.alloc hsz _⟩ | exact ⟨j + 1, _, by omega, by go_num, rfl, UP.out, hb.alloc hsz _⟩
            case measure => simp [intOf]; omega
      · obtain rfl : j = s.size := by omega
        have hls := hloose.out.2
        have hdone := loose_done HG.out hloose.out
        have a5 := normal_any B (ls ++ { data := #[32] }) wr (HE.out.below hb) (by rw [ByteArray.size_append]; show _ + 1 ≤ _; omega)
        rw [normV_eq, hdone, CK.out, ev_0, show nmS (ls ++ { data := #[32] }) = s by unfold nmS; rw [hdone, if_pos CK.out]] at a5
        clear hdone kconv
        go_wp2_with fail
        refine a5.mono ?_
        rintro e w4 ⟨rfl, hb4⟩
        have HB4 := Lib.hid (hb.trans (hb4.mono hsz)); clear hb4
        go_wp2_with fail
        refine (A4.out _ (HE.out.below HB4.out)).mono ?_
        rintro e w5 ⟨rfl, hb5⟩
        have HB5 := Lib.hid (HB4.out.trans (hb5.mono HB4.out.size)); clear hb5
        cases t1 : ((o.size : Int) == 2) with
        | false =>
          have t1' : ((o.size : Int) != 2) = true := by unfold bne; rw [t1]; rfl
          go_wp2
          go_ret
          exact ⟨rfl, HB5.out⟩
        | true =>
          have t1' : ((o.size : Int) != 2) = false := by unfold bne; rw [t1]; rfl
          have o2 : o.size = 2 := by have := beq_iff_eq.1 t1; omega
          cases t2 : (o.toList == d.toList) with
          | true =>
            go_wp2
            go_ret
            exact ⟨rfl, HB5.out⟩
          | false =>
            have hne := HO.out o o2 t2
            have a6 := check_any B (c ++ o ++ b) w5 (HE.out.below HB5.out) (by rw [ByteArray.size_append, ByteArray.size_append]; omega)
            rcases chk_three (c ++ o ++ b) with h0 | h0 | h0
            · exact absurd h0 hne
            · rw [h0, ev_7] at a6
              clear h0 hne
              go_wp2_with fail
              refine a6.mono ?_
              rintro e w6 ⟨rfl, hb6⟩
              go_wp2
              go_ret
              exact ⟨rfl, HB5.out.trans (hb6.mono HB5.out.size)⟩
            · rw [h0, ev_8] at a6
              clear h0 hne
              go_wp2_with fail
              refine a6.mono ?_
              rintro e w6 ⟨rfl, hb6⟩
              go_wp2
              go_ret
              exact ⟨rfl, HB5.out.trans (hb6.mono HB5.out.size)⟩
end Go.Proofs.YtfcalpfpfibbfaaDoor
