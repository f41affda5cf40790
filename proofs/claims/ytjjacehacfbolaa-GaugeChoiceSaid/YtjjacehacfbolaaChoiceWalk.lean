/- The walk of GaugeChoice: it answers true and turns nothing that was there. -/
import Derived.Test.YtjjacehacfbolaaChoice
namespace Go.Proofs.Ytjjacehacfbolaa
open Go.RowKit

/-- The shape alone. -/
theorem own_sl' {w : World} {B n : Nat} {v : Value} {z : Nat → Nat} (h : w.ownsRow B 24 1 v n (flo z n)) : ∃ A c, v = .slice A n c := by
  obtain ⟨A, c, e, _⟩ := own_sl h
  exact ⟨A, c, e⟩
theorem eq_eq {a b : Nat} (ha : Rnd.good a = true) (hb : Rnd.good b = true) : (FloatKind.f32.format.order a b == some .eq) = decide (Rnd.rung a = Rnd.rung b) := by
  rw [ford ha hb]
  rcases Nat.lt_trichotomy (Rnd.rung a) (Rnd.rung b) with h | h | h
  · rw [Nat.compare_eq_lt.2 h]; simp; omega
  · rw [h, Nat.compare_eq_eq.2 rfl]; simp
  · rw [Nat.compare_eq_gt.2 h]; simp; omega
theorem quiet_more {w wr : World} {n : Nat} (h : Hid (∃ d : Nat, wr = w.drewN d)) : Hid (∃ d : Nat, wr.drewN n = w.drewN d) := by
  obtain ⟨d, rfl⟩ := h.out
  exact ⟨d + n, World.drewN_drewN ..⟩
theorem counts_same (b : Nat) (w : World) (hb : b < 4294967296) : Calls Try.prog 12 #[.float .f32 b] w fun e w' => e = .returned (.float .f32 (vb b)) ∧ w' = w :=
  (counts_any b w hb).mono fun _ _ h => ⟨h.1, h.2.symm⟩

set_option maxHeartbeats 2000000 in
theorem choice_walk (A : Option Addr) (n ca : Nat) (B : Option Addr) (m cb : Nat) (C : Option Addr) (lo cc : Nat) (z o : Nat → Nat) (may : Nat → Bool) (w : World)
    (hA : Sl w A n (fun i => .int .u32 (z i))) (hB : Sl w B m (fun i => .bool (may i))) (hC : Sl w C lo (fun i => .int .u32 (o i)))
    (hz : ∀ i, i < n → z i < 4294967296) (ho : ∀ i, i < lo → o i < 4294967296)
    (hn : n * 4 ≤ 140737488351232) (hm : m ≤ 140737488351232) (hlo : lo ≤ 140737488351232) :
    Calls Try.prog 4 #[.slice A n ca, .slice B m cb, .slice C lo cc] w fun e w' => e = .returned (.bool true) ∧ Below w.heap.size w w' := by
  have HA := Lib.hid hA; clear hA
  have HB := Lib.hid hB; clear hB
  have HC := Lib.hid hC; clear hC
  have HZ := Lib.hid hz; clear hz
  have HO := Lib.hid ho; clear ho
  have hN : (m < n ∧ min n m = m) ∨ (¬ m < n ∧ min n m = n) := by omega
  rcases best_spec z may (min n m) with ⟨e, hall⟩ | ⟨j, e, hj, hmj, hall⟩
  · have HALL := Lib.hid hall; clear hall
    have E := Lib.hid e; clear e
    go_enter Try.func4, Try.ntmps4
    go_wp2_with (go_at_call 6; refine (lives_any _).mono ?_; rintro e w' ⟨rfl, rfl⟩)
    refine (list_any A n ca z _ HA.out hn).mono ?_
    rintro e w1 ⟨v, rfl, hown, hbel⟩
    obtain ⟨A1, c1, rfl, hs1⟩ := own_sl hown
    have HS1 := Lib.hid hs1; clear hs1 hown
    have HB1 := Lib.hid (HB.out.below hbel)
    have HBEL := Lib.hid hbel; clear hbel
    go_wp2_with fail
    refine (best_any A1 n c1 B m cb z may _ HS1.out HB1.out HZ.out (by omega) (by omega)).mono ?_
    rintro e w' ⟨rfl, rfl⟩
    rw [E.out]
    go_wp2_with fail
    all_goals
      go_loop [11] (fun i => ∃ k : Nat, k ≤ min n m ∧ i = .int .i64 k) (fun i => min n m - (intOf i).toNat)
      case atStart => exact ⟨0, Nat.zero_le _, rfl⟩
      case round =>
        obtain ⟨k, hk, rfl⟩ := hrel
        by_cases hlt : k < min n m
        · have k1 : k < m := by omega
          have k2 : k < n := by omega
          obtain ⟨gb, ob, rfl, hgb, hcb⟩ := HB1.out (by omega)
          have cb1 : w1.cell? ⟨gb, ob + k, none⟩ = some (.bool false) := by rw [← HALL.out k hlt]; exact hcb k k1
          have HCB := Lib.hid hcb; clear hcb
          go_wp2
          go_round
          case rel => exact ⟨k + 1, by omega, by go_num⟩
          case measure => simp [intOf]; omega
        · obtain rfl : k = min n m := by omega
          go_wp2_with fail
          refine (list_any A n ca z _ (HA.out.below HBEL.out) hn).mono ?_
          rintro e w2 ⟨v, rfl, hown, hbel2⟩
          have hb2 := Lib.hid (HBEL.out.trans (hbel2.mono HBEL.out.size)); clear hbel2
          have hsz0 := HBEL.out.size
          rw [← mix_zero z o may m lo n] at hown
          have hfin := own_sl' hown
          obtain ⟨A2, c2, rfl⟩ := hfin
          go_wp2_with fail
          go_loopw [86] (fun i wr => ∃ k : Nat, k ≤ n ∧ i = .int .i64 k ∧ wr.ownsRow w1.heap.size 24 1 (.slice A2 n c2) n (flo (mix z o may m lo k) n) ∧ Below w.heap.size w wr) (fun i _ => n - (intOf i).toNat)
          case atStart => exact ⟨0, Nat.zero_le _, rfl, hown, hb2.out⟩
          case round =>
            clear hown hb2
            obtain ⟨k, hk, rfl, hown, hb2⟩ := hrel
            by_cases hlt : k < n
            · obtain ⟨g2, c', hv, hg2, _⟩ := hown.form (by omega)
              obtain ⟨rfl, rfl⟩ : A2 = some ⟨g2, 0, none⟩ ∧ c2 = c' := by simpa using hv
              clear hv
              have cell0 : wr.cell? ⟨g2, k, none⟩ = some (.float .f32 (mix z o may m lo k k)) := by
                rw [hown.cellAt k (by omega)]; simp [flo, List.getElem?_range hlt]
              have frz := hown.frozenAt k
              have KEEP := Lib.hid (@mix_keep z o may m lo k n)
              have SET := Lib.hid (@mix_set z o may m lo k n)
              have STO := Lib.hid (hown.stored k (.float .f32 (o k)))
              have HOWN := Lib.hid hown; clear hown
              have HB2 := Lib.hid hb2; clear hb2
              have hg2w : w.heap.size ≤ g2 := by omega
              by_cases hkm : k < m
              · obtain ⟨gb, ob, rfl, hgb, hcb⟩ := HB.out (by omega)
                have cb1 : wr.cell? ⟨gb, ob + k, none⟩ = some (.bool (may k)) := (HB2.out.cell (by exact hgb)).trans (hcb k hkm)
                have HCB := Lib.hid hcb; clear hcb
                cases hmk : may k
                · rw [hmk] at cb1
                  by_cases hklo : k < lo
                  · obtain ⟨gc, oc, rfl, hgc, hcc⟩ := HC.out (by omega)
                    have cc1 : wr.cell? ⟨gc, oc + k, none⟩ = some (.int .u32 (o k)) := (HB2.out.cell (by exact hgc)).trans (hcc k hklo)
                    have HCC := Lib.hid hcc; clear hcc
                    have HMK := Lib.hid hmk; clear hmk
                    go_wp2_with (go_at_call 7; refine (of_nat _ _).mono ?_; rintro e w' ⟨rfl, rfl⟩)
                    go_roundw
                    case rel => exact ⟨k + 1, by omega, by go_num, by rw [← SET.out ⟨.inr HMK.out, hklo⟩]; exact STO.out.1, HB2.out.setCell (by exact hg2w) _⟩
                    case measure => simp [intOf]; omega
                  · go_wp2
                    go_roundw
                    case rel => exact ⟨k + 1, by omega, by go_num, by rw [KEEP.out (by omega)]; exact HOWN.out, HB2.out⟩
                    case measure => simp [intOf]; omega
                · rw [hmk] at cb1
                  have HMK := Lib.hid hmk; clear hmk
                  go_wp2
                  go_roundw
                  case rel => exact ⟨k + 1, by omega, by go_num, by rw [KEEP.out (by rw [HMK.out]; simp; omega)]; exact HOWN.out, HB2.out⟩
                  case measure => simp [intOf]; omega
              · first
                | (exfalso; omega)
                | by_cases hklo : k < lo
                  · obtain ⟨gc, oc, rfl, hgc, hcc⟩ := HC.out (by omega)
                    have cc1 : wr.cell? ⟨gc, oc + k, none⟩ = some (.int .u32 (o k)) := (HB2.out.cell (by exact hgc)).trans (hcc k hklo)
                    have HCC := Lib.hid hcc; clear hcc
                    go_wp2_with (go_at_call 7; refine (of_nat _ _).mono ?_; rintro e w' ⟨rfl, rfl⟩)
                    go_roundw
                    case rel => exact ⟨k + 1, by omega, by go_num, by rw [← SET.out ⟨.inl (by omega), hklo⟩]; exact STO.out.1, HB2.out.setCell (by exact hg2w) _⟩
                    case measure => simp [intOf]; omega
                  · go_wp2
                    go_roundw
                    case rel => exact ⟨k + 1, by omega, by go_num, by rw [KEEP.out (by omega)]; exact HOWN.out, HB2.out⟩
                    case measure => simp [intOf]; omega
            · obtain rfl : k = n := by omega
              obtain ⟨A3, c3, hv, hs3⟩ := own_sl hown
              obtain ⟨rfl, rfl⟩ : A2 = A3 ∧ c2 = c3 := by simpa using hv
              clear hv hown
              have HS3 := Lib.hid hs3; clear hs3
              have HB2 := Lib.hid hb2; clear hb2
              go_wp2_with fail
              refine (best_any A2 k c2 _ m cb (mix z o may m lo k) may _ HS3.out (HB.out.below HB2.out) (mix_lt HZ.out HO.out) (by omega) (by omega)).mono ?_
              rintro e w' ⟨rfl, rfl⟩
              rw [mix_best (by omega), E.out]
              go_wp2
              go_ret
              exact ⟨ret_b (by simp), HB2.out⟩
  · have HALL := Lib.hid hall; clear hall
    have E := Lib.hid e; clear e
    have jn : j < n := by omega
    have jm : j < m := by omega
    go_enter Try.func4, Try.ntmps4
    go_wp2_with (go_at_call 6; refine (lives_any _).mono ?_; rintro e w' ⟨rfl, rfl⟩)
    refine (list_any A n ca z _ HA.out hn).mono ?_
    rintro e w1 ⟨v, rfl, hown, hbel⟩
    obtain ⟨A1, c1, rfl, hs1⟩ := own_sl hown
    have HS1 := Lib.hid hs1; clear hs1 hown
    have HB1 := Lib.hid (HB.out.below hbel)
    have HBEL0 := Lib.hid hbel; clear hbel
    go_wp2_with fail
    refine (best_any A1 n c1 B m cb z may _ HS1.out HB1.out HZ.out (by omega) (by omega)).mono ?_
    rintro e w' ⟨rfl, rfl⟩
    rw [E.out]
    obtain ⟨gb, ob, rfl, hgb, hcb⟩ := HB.out (by omega)
    have cbj : w1.cell? ⟨gb, ob + j, none⟩ = some (.bool true) := by rw [← hmj]; exact (HBEL0.out.cell (by exact hgb)).trans (hcb j jm)
    have HCB := Lib.hid hcb; clear hcb
    have HMJ := Lib.hid hmj; clear hmj
    obtain ⟨ga, oa, rfl, hga, hca⟩ := HS1.out (by omega)
    have caj : w1.cell? ⟨ga, oa + j, none⟩ = some (.float .f32 (z j)) := hca j jn
    have HCA := Lib.hid hca; clear hca
    have hnj : (-1 : Int) ≤ (j : Int) := by omega
    have hnj0 : (0 : Int) ≤ (j : Int) := by omega
    have hnj1 : (j : Int) < (n : Int) := by omega
    have hnj2 : (j : Int) < (m : Int) := by omega
    have zj32 := HZ.out j jn
    go_wp2_with fail
    all_goals
      go_loopw [11] (fun i wr => ∃ k : Nat, k ≤ min n m ∧ i = .int .i64 k ∧ Hid (∃ d : Nat, wr = w1.drewN d)) (fun i _ => min n m - (intOf i).toNat)
      case atStart => exact ⟨0, Nat.zero_le _, rfl, 0, rfl⟩
      case round =>
        obtain ⟨k, hk, rfl, hd⟩ := hrel
        have hcell : Hid (∀ a, wr.cell? a = w1.cell? a) := by
          obtain ⟨d, rfl⟩ := hd.out
          exact fun _ => rfl
        by_cases hlt : k < min n m
        · have k1 : k < m := by omega
          have k2 : k < n := by omega
          have cb1 : wr.cell? ⟨gb, ob + k, none⟩ = some (.bool (may k)) := (hcell.out _).trans ((HBEL0.out.cell (by exact hgb)).trans (HCB.out k k1))
          have ca1 : wr.cell? ⟨ga, oa + k, none⟩ = some (.float .f32 (z k)) := (hcell.out _).trans (HCA.out k k2)
          have ca2 : wr.cell? ⟨ga, oa + j, none⟩ = some (.float .f32 (z j)) := (hcell.out _).trans caj
          have i1 : (0 : Int) ≤ (k : Int) := by omega
          have i2 : (k : Int) < (n : Int) := by omega
          have zk32 := HZ.out k k2
          cases hmk : may k
          · rw [hmk] at cb1
            go_wp2
            go_roundw
            case rel => exact ⟨k + 1, by omega, by go_num, hd⟩
            case measure => simp [intOf]; omega
          · rw [hmk] at cb1
            have HK := HALL.out k hlt hmk
            have hgt := gt_eq (vb_good (z k)) (vb_good (z j))
            have heq := eq_eq (vb_good (z k)) (vb_good (z j))
            rcases HK with hr | ⟨hr, hjk⟩
            · rw [show decide (Rnd.rung (vb (z j)) < Rnd.rung (vb (z k))) = false from by simpa using Nat.le_of_lt (show Rnd.rung (vb (z k)) < Rnd.rung (vb (z j)) from hr)] at hgt
              rw [show decide (Rnd.rung (vb (z k)) = Rnd.rung (vb (z j))) = false from by simpa using Nat.ne_of_lt (show Rnd.rung (vb (z k)) < Rnd.rung (vb (z j)) from hr)] at heq
              go_wp2
              go_quiet ((go_at_call 12; exact Calls.quiet_of_same (counts_same _ _ (by first | exact zk32 | exact zj32))))
              go_wp2
              go_roundw
              case rel => exact ⟨k + 1, by omega, by go_num, quiet_more hd⟩
              case measure => simp [intOf]; omega
            · rw [show decide (Rnd.rung (vb (z j)) < Rnd.rung (vb (z k))) = false from by simpa using Nat.le_of_eq (show Rnd.rung (vb (z k)) = Rnd.rung (vb (z j)) from hr)] at hgt
              rw [show decide (Rnd.rung (vb (z k)) = Rnd.rung (vb (z j))) = true from by simpa using (show Rnd.rung (vb (z k)) = Rnd.rung (vb (z j)) from hr)] at heq
              clear hr
              go_wp2
              go_quiet ((go_at_call 12; exact Calls.quiet_of_same (counts_same _ _ (by first | exact zk32 | exact zj32))))
              go_wp2
              go_roundw
              case rel => exact ⟨k + 1, by omega, by go_num, quiet_more hd⟩
              case measure => simp [intOf]; omega
        · obtain rfl : k = min n m := by omega
          have HBEL : Hid (Below w.heap.size w wr) := by
            obtain ⟨d, rfl⟩ := hd.out
            exact below_drewN HBEL0.out d
          obtain ⟨w1', hw1'⟩ : ∃ x, x = wr := ⟨_, rfl⟩
          rw [← hw1'] at HBEL ⊢
          clear hd hcell hw1'
          go_wp2_with fail
          refine (list_any A n ca z _ (HA.out.below HBEL.out) hn).mono ?_
          rintro e w2 ⟨v, rfl, hown, hbel2⟩
          have hb2 := Lib.hid (HBEL.out.trans (hbel2.mono HBEL.out.size)); clear hbel2
          have hsz0 := HBEL.out.size
          rw [← mix_zero z o may m lo n] at hown
          have hfin := own_sl' hown
          obtain ⟨A2, c2, rfl⟩ := hfin
          go_wp2_with fail
          go_loopw [86] (fun i wr => ∃ k : Nat, k ≤ n ∧ i = .int .i64 k ∧ wr.ownsRow w1'.heap.size 24 1 (.slice A2 n c2) n (flo (mix z o may m lo k) n) ∧ Below w.heap.size w wr) (fun i _ => n - (intOf i).toNat)
          case atStart => exact ⟨0, Nat.zero_le _, rfl, hown, hb2.out⟩
          case round =>
            clear hown hb2
            obtain ⟨k, hk, rfl, hown, hb2⟩ := hrel
            by_cases hlt : k < n
            · obtain ⟨g2, c', hv, hg2, _⟩ := hown.form (by omega)
              obtain ⟨rfl, rfl⟩ : A2 = some ⟨g2, 0, none⟩ ∧ c2 = c' := by simpa using hv
              clear hv
              have cell0 : wr.cell? ⟨g2, k, none⟩ = some (.float .f32 (mix z o may m lo k k)) := by
                rw [hown.cellAt k (by omega)]; simp [flo, List.getElem?_range hlt]
              have frz := hown.frozenAt k
              have KEEP := Lib.hid (@mix_keep z o may m lo k n)
              have SET := Lib.hid (@mix_set z o may m lo k n)
              have STO := Lib.hid (hown.stored k (.float .f32 (o k)))
              have HOWN := Lib.hid hown; clear hown
              have HB2 := Lib.hid hb2; clear hb2
              have hg2w : w.heap.size ≤ g2 := by omega
              by_cases hkm : k < m
              · have cb1 : wr.cell? ⟨gb, ob + k, none⟩ = some (.bool (may k)) := (HB2.out.cell (by exact hgb)).trans (HCB.out k hkm)
                cases hmk : may k
                · rw [hmk] at cb1
                  by_cases hklo : k < lo
                  · obtain ⟨gc, oc, rfl, hgc, hcc⟩ := HC.out (by omega)
                    have cc1 : wr.cell? ⟨gc, oc + k, none⟩ = some (.int .u32 (o k)) := (HB2.out.cell (by exact hgc)).trans (hcc k hklo)
                    have HCC := Lib.hid hcc; clear hcc
                    have HMK := Lib.hid hmk; clear hmk
                    go_wp2_with (go_at_call 7; refine (of_nat _ _).mono ?_; rintro e w' ⟨rfl, rfl⟩)
                    go_roundw
                    case rel => exact ⟨k + 1, by omega, by go_num, by rw [← SET.out ⟨.inr HMK.out, hklo⟩]; exact STO.out.1, HB2.out.setCell (by exact hg2w) _⟩
                    case measure => simp [intOf]; omega
                  · go_wp2
                    go_roundw
                    case rel => exact ⟨k + 1, by omega, by go_num, by rw [KEEP.out (by omega)]; exact HOWN.out, HB2.out⟩
                    case measure => simp [intOf]; omega
                · rw [hmk] at cb1
                  have HMK := Lib.hid hmk; clear hmk
                  go_wp2
                  go_roundw
                  case rel => exact ⟨k + 1, by omega, by go_num, by rw [KEEP.out (by rw [HMK.out]; simp; omega)]; exact HOWN.out, HB2.out⟩
                  case measure => simp [intOf]; omega
              · first
                | (exfalso; omega)
                | by_cases hklo : k < lo
                  · obtain ⟨gc, oc, rfl, hgc, hcc⟩ := HC.out (by omega)
                    have cc1 : wr.cell? ⟨gc, oc + k, none⟩ = some (.int .u32 (o k)) := (HB2.out.cell (by exact hgc)).trans (hcc k hklo)
                    have HCC := Lib.hid hcc; clear hcc
                    go_wp2_with (go_at_call 7; refine (of_nat _ _).mono ?_; rintro e w' ⟨rfl, rfl⟩)
                    go_roundw
                    case rel => exact ⟨k + 1, by omega, by go_num, by rw [← SET.out ⟨.inl (by omega), hklo⟩]; exact STO.out.1, HB2.out.setCell (by exact hg2w) _⟩
                    case measure => simp [intOf]; omega
                  · go_wp2
                    go_roundw
                    case rel => exact ⟨k + 1, by omega, by go_num, by rw [KEEP.out (by omega)]; exact HOWN.out, HB2.out⟩
                    case measure => simp [intOf]; omega
            · obtain rfl : k = n := by omega
              obtain ⟨A3, c3, hv, hs3⟩ := own_sl hown
              obtain ⟨rfl, rfl⟩ : A2 = A3 ∧ c2 = c3 := by simpa using hv
              clear hv hown
              have HS3 := Lib.hid hs3; clear hs3
              have HB2 := Lib.hid hb2; clear hb2
              go_wp2_with fail
              refine (best_any A2 k c2 _ m cb (mix z o may m lo k) may _ HS3.out (HB.out.below HB2.out) (mix_lt HZ.out HO.out) (by omega) (by omega)).mono ?_
              rintro e w' ⟨rfl, rfl⟩
              rw [mix_best (by omega), E.out]
              go_wp2
              go_ret
              exact ⟨ret_b (by simp), HB2.out⟩
end Go.Proofs.Ytjjacehacfbolaa
