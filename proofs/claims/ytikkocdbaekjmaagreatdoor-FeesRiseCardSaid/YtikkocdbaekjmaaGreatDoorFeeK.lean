/- remitlaw18.FeesRise: walked. -/
import Derived.Test.YtikkocdbaekjmaaGreatDoorFeeJ
import Derived.Test.YtikkocdbaekjmaaGreatDoorHeldE
namespace Go.Proofs.YtikkocdbaekjmaaGreatDoor
open Go.RowKit
theorem am_at (a : Int) : ∃ k : Nat, wrap64 ((IntKind.u64.wrap a).tmod 10000000000) = k ∧ k < 10000000000 := by
  have h0 : 0 ≤ IntKind.u64.wrap a := by simp only [IntKind.wrap_u64]; omega
  generalize IntKind.u64.wrap a = x at *
  rw [Int.tmod_eq_emod_of_nonneg h0]
  have h1 := Int.emod_nonneg x (b := 10000000000) (by omega)
  have h2 := Int.emod_lt_of_pos x (b := 10000000000) (by omega)
  generalize x % 10000000000 = r at *
  exact ⟨r.toNat, by unfold wrap64; omega, by omega⟩
theorem Boxed.drew {w wr : World} {A : Option Addr} {n c : Nat} {l m : Int} (h : Boxed w wr A n c l m) : Boxed w wr.drew A n c l m := ⟨h.below.drew, h.box⟩
theorem flat_fee (B : Nat → Addr) {p q : Nat} (h : 1 ≤ p ∧ p ≤ q ∧ q ≤ 10000000000) : feeR B 1 (fun _ => ⟨0, (p : Nat), 0⟩) 0 0 (q : Nat) = .tuple #[.int .i64 (p : Nat), .nilIface] := by
  have hg : goodB 1 (fun _ => ⟨0, (p : Nat), 0⟩) 0 0 = true := by
    simp [goodB, goodTo, goodT, okT, goodL, amtB, rateB]
    omega
  unfold feeR
  rw [if_pos hg, if_pos (by omega)]
  have hf : feeOf ⟨0, (p : Nat), 0⟩ 0 0 (q : Nat) = (p : Nat) := by
    simp [feeOf, rateOf]
  rw [hf]
set_option maxRecDepth 100000 in
set_option maxHeartbeats 4000000 in
theorem rise_walk (B : Nat → Addr) (A : Option Addr) (n c : Nat) (t : Nat → Tier) (l m a b M : Int) (w : World) (hm : w.cell? ⟨39, 0, none⟩ = some (.int .i64 M)) (hE : Env w B) (htab : Tab w) (hT : Tiers w A n t) :
    Calls Tryz.prog 4 #[feeV A n c l m, .int .i64 a, .int .i64 b] w fun e w' => e = .returned (.bool true) ∧ Below w.heap.size w w' := by
  have HE := Lib.hid hE; have HT := Lib.hid hT
  have HX := Lib.hid (Boxed.new w A n c l m)
  have hbx := HX.out.below
  have a1 := lives_any B M _ ((hbx.cell (p := ⟨39, 0, none⟩) (World.block_lt_of_cell? _ _ hm)).trans hm) (HE.out.below hbx) (tab_below htab hbx)
  unfold feeV
  clear hE hT hm htab hbx
  go_enter Tryz.func4, Tryz.ntmps4
  go_wp2_with fail
  refine a1.mono ?_
  clear a1
  rintro e w1 ⟨rfl, hb1⟩
  have HX1 := Lib.hid (HX.out.step hb1)
  clear hb1 HX
  have a2 := check_any B A n c t l m w1 (HE.out.below HX1.out.below) (HT.out.step HX1.out.below)
  unfold feeV at a2
  obtain ⟨x0, x1, x2⟩ := HX1.out.cells
  go_wp2_with fail
  refine a2.mono ?_
  clear a2 x0 x1 x2
  rintro e w2 ⟨rfl, hb2⟩
  have HX2 := Lib.hid (HX1.out.step hb2)
  clear hb2 HX1
  cases hG : goodB n t l m with
  | false =>
    rw [show chkV B false = .iface 293 (.pointer (some (B 0))) from rfl]
    clear hG
    have hgg := (HE.out.below HX2.out.below).cell 0 (by decide)
    go_wp2
    go_ret
    exact ⟨rfl, HX2.out.below⟩
  | true =>
    have HG := Lib.hid hG
    rw [show chkV B true = .nilIface from rfl]
    clear hG
    obtain ⟨p0, hp0, hp1⟩ := am_at a
    obtain ⟨q0, hq0, hq1⟩ := am_at b
    go_upto_if 29 with fail
    have HP := Lib.hid (show p0 < 10000000000 ∧ q0 < 10000000000 from ⟨hp1, hq1⟩)
    clear hp0 hq0 hp1 hq1
    generalize hpi : (1 : Int) + p0 = pi at *
    generalize hqi : (1 : Int) + q0 = qi at *
    have HPI := Lib.hid hpi; have HQI := Lib.hid hqi
    clear hpi hqi
    generalize hdd : decide (q0 < p0) = dd at *
    have HDD := Lib.hid hdd
    clear hdd
    go_cut [1, 2] from 29 to 31 (fun u v wx => ∃ p q : Nat, u = .int .i64 p ∧ v = .int .i64 q ∧ Hid (1 ≤ p ∧ p ≤ q ∧ q ≤ 10000000000) ∧ wx = w2)
    case first =>
      cases dd with
      | true =>
        have HL := Lib.hid (of_decide_eq_true HDD.out)
        go_wp2
        go_meet
        exact ⟨q0 + 1, p0 + 1, by rw [← HQI.out]; congr 1; omega, by rw [← HPI.out]; congr 1; omega, Lib.hid (by have := HL.out; have := HPI.out; have := HQI.out; have := HP.out; omega), rfl⟩
      | false =>
        have HL := Lib.hid (of_decide_eq_false HDD.out)
        go_wp2
        go_meet
        exact ⟨p0 + 1, q0 + 1, by rw [← HPI.out]; congr 1; omega, by rw [← HQI.out]; congr 1; omega, Lib.hid (by have := HL.out; have := HPI.out; have := HQI.out; have := HP.out; omega), rfl⟩
    case rest =>
      obtain ⟨p, q, rfl, rfl, HPQ, rfl⟩ := hcut
      have GP := Lib.hid (goodP HG.out)
      have a3 := fee_any B A n c t l m p _ (HE.out.below HX2.out.below) (HT.out.step HX2.out.below)
      have a4 := fun wx hb => fee_any B A n c t l m q wx (HE.out.below hb) (HT.out.step hb)
      rw [show feeR B n t l m p = .tuple #[.int .i64 (feeOf (t (tierTo t p n)) l m p), .nilIface] by unfold feeR; rw [if_pos HG.out, if_pos (by have := HPQ.out; omega)]] at a3
      rw [show feeR B n t l m q = .tuple #[.int .i64 (feeOf (t (tierTo t q n)) l m q), .nilIface] by unfold feeR; rw [if_pos HG.out, if_pos (by have := HPQ.out; omega)]] at a4
      unfold feeV at a3 a4
      have HA4 := Lib.hid a4
      obtain ⟨x0, x1, x2⟩ := HX2.out.cells
      clear a4
      go_wp2_with fail
      refine a3.mono ?_
      clear a3 x0 x1 x2
      rintro e w3 ⟨rfl, hb3⟩
      have HX3 := Lib.hid (HX2.out.step hb3)
      clear hb3 HX2
      have a4 := HA4.out _ HX3.out.below
      obtain ⟨x0, x1, x2⟩ := HX3.out.cells
      go_wp2_with fail
      refine a4.mono ?_
      clear a4 HA4 x0 x1 x2
      rintro e w4 ⟨rfl, hb4⟩
      have HX4 := Lib.hid (HX3.out.step hb4)
      clear hb4 HX3
      have HM := Lib.hid (show tierTo t p n = tierTo t q n → feeOf (t (tierTo t p n)) l m p ≤ feeOf (t (tierTo t q n)) l m q from fun h => by rw [h]; exact fee_rise (by have := HPQ.out; omega))
      have ix := tierTo_lt t p (n := n) (by have := GP.out.n1; omega) n (Nat.le_refl _)
      have iy := tierTo_lt t q (n := n) (by have := GP.out.n1; omega) n (Nat.le_refl _)
      have hx1 := fee_least (x := t (tierTo t p n)) (a := p) GP.out.lm
      have hy1 := fee_least (x := t (tierTo t q n)) (a := q) GP.out.lm
      have hx2 : m ≠ 0 → feeOf (t (tierTo t p n)) l m p ≤ m := fee_most
      have hy2 : m ≠ 0 → feeOf (t (tierTo t q n)) l m q ≤ m := fee_most
      have hy3 := fee_twice (l := l) (m := m) (GP.out.fl _ iy).2 GP.out.l0.2 (by have := HPQ.out; omega) (by omega) (GP.out.rt _ iy).2 (GP.out.fl _ iy).1 (x := t (tierTo t q n)) (a := q)
      generalize feeOf (t (tierTo t p n)) l m p = fx at *
      generalize feeOf (t (tierTo t q n)) l m q = fy at *
      have d1 : decide (fx < l) = false := decide_eq_false (by omega)
      have d2 : decide (fy < l) = false := decide_eq_false (by omega)
      have d3 : decide (20000000000 < fy) = false := decide_eq_false (by omega)
      have d4 : m ≠ 0 → decide (m < fx) = false := fun h => decide_eq_false (by have := hx2 h; omega)
      have d5 : m ≠ 0 → decide (m < fy) = false := fun h => decide_eq_false (by have := hy2 h; omega)
      clear hx1 hy1 hx2 hy2 hy3 ix iy
      go_upto_region 11 with fail
      go_cut [82] from 44 to 82 (fun v wx => v = .bool false ∧ wx = w4)
      case first =>
        obtain ⟨x0, x1, x2⟩ := HX4.out.cells
        by_cases hm0 : m = 0
        · have q1 : (m == 0) = true := beq_iff_eq.2 hm0
          have q2 : (m != 0) = false := by simp [hm0]
          clear hm0 d4 d5
          go_wp2
          go_meet
          exact ⟨rfl, rfl⟩
        · have q1 : (m == 0) = false := beq_eq_false_iff_ne.2 hm0
          have q2 : (m != 0) = true := by simp [hm0]
          have d4 := d4 hm0
          have d5 := d5 hm0
          clear hm0
          go_wp2
          go_meet
          exact ⟨rfl, rfl⟩
      obtain ⟨rfl, hwc⟩ := hcut
      obtain rfl : w4 = _ := hwc.symm
      obtain ⟨x0, x1, x2⟩ := HX4.out.cells
      clear d1 d2 d3 d4 d5
      have hw4 := (Below.refl w4.heap.size w4).alloc (Nat.le_refl _) (.cells #[.int .i64 0, .int .i64 (p : Nat), .int .i64 0] 35)
      have HX5 := Lib.hid (HX4.out.step hw4)
      have a5 := fee_any B (some ⟨w4.heap.size, 0, none⟩) 1 1 (fun _ => ⟨0, (p : Nat), 0⟩) 0 0 (q : Nat) (w4.alloc (.cells #[.int .i64 0, .int .i64 (p : Nat), .int .i64 0] 35)) (HE.out.below HX5.out.below) (.inr ⟨w4.heap.size, 0, rfl, by simp, fun i hi => by
        obtain rfl : i = 0 := by omega
        simp⟩)
      rw [flat_fee B HPQ.out] at a5
      unfold feeV at a5
      have HA5 := Lib.hid a5
      have HA6 := Lib.hid (show ∀ (wx : World) (r : Int), Boxed w wx A n c l m → Calls Tryz.prog 13 #[.agg #[.slice A n c, .int .i64 l, .int .i64 m], .int .i64 r] wx fun e w' => e = .returned (.int .i64 (tierTo t r n)) ∧ Boxed w w' A n c l m from fun wx r hb => (tier_any A n c t l m r wx (HT.out.step hb.below) GP.out.n6).mono fun e w' h => ⟨h.1, hb.step h.2⟩)
      clear a5 hw4
      go_upto_region 13 with fail
      all_goals (
        have a5 := HA5.out
        go_wp2_with fail
        refine a5.mono ?_
        clear a5 HA5
        rintro e w6 ⟨rfl, hb6⟩
        have HX6 := Lib.hid (HX5.out.step hb6)
        clear hb6 HX5 HX4 x0 x1 x2
        obtain ⟨x0, x1, x2⟩ := HX6.out.cells
        go_upto_region 16 with fail)
      have hbx := HX6.out
      obtain ⟨g0, g1, g2⟩ := hbx.drew.cells
      have HAp := Lib.hid (HA6.out · (p : Nat)); have HAq := Lib.hid (HA6.out · (q : Nat))
      clear HA6
      generalize tierTo t (p : Nat) n = tp at *
      generalize tierTo t (q : Nat) n = tq at *
      by_cases heq : tp = tq
      · have hle := HM.out heq
        have b1 : decide (fx ≤ fy) = true := decide_eq_true hle
        have b2 : ((tp : Int) == (tp : Int)) = true := beq_self_eq_true _
        subst heq
        clear hle HM
        refine wp_region_E (S := fun W => Boxed w W A n c l m) (late := []) (by kernel_rfl) ?_
        have HS := hbx.drew
        refine wpAnyE_take (i := 0) (v := .agg #[.slice A n c, .int .i64 l, .int .i64 m]) rfl (by kernel_rfl) (by kernel_rfl) (by kernel_rfl) (by kernel_rfl) (by kernel_rfl) (fun _ _ _ h => h) (Or.inl ⟨by kernel_rfl, ?_⟩) HS ?_
        · intro W hSw; obtain ⟨y0, y1, y2⟩ := hSw.cells; go_simp
        try simp only [Act.put, List.getElem_toArray, List.getElem_cons_succ, List.getElem_cons_zero, List.setIfInBounds_toArray, List.set_cons_succ, List.set_cons_zero]
        refine wpAnyE_take (i := 1) (v := .int .i64 p) rfl (by kernel_rfl) (by kernel_rfl) (by kernel_rfl) (by kernel_rfl) (by kernel_rfl) (fun _ _ _ h => h) (Or.inl ⟨by kernel_rfl, ?_⟩) HS ?_
        · intro W hSw; go_simp
        try simp only [Act.put, List.getElem_toArray, List.getElem_cons_succ, List.getElem_cons_zero, List.setIfInBounds_toArray, List.set_cons_succ, List.set_cons_zero]
        refine wpAnyE_take (i := 3) (v := .agg #[.slice A n c, .int .i64 l, .int .i64 m]) rfl (by kernel_rfl) (by kernel_rfl) (by kernel_rfl) (by kernel_rfl) (by kernel_rfl) (fun _ _ _ h => h) (Or.inl ⟨by kernel_rfl, ?_⟩) HS ?_
        · intro W hSw; obtain ⟨y0, y1, y2⟩ := hSw.cells; go_simp
        try simp only [Act.put, List.getElem_toArray, List.getElem_cons_succ, List.getElem_cons_zero, List.setIfInBounds_toArray, List.set_cons_succ, List.set_cons_zero]
        refine wpAnyE_take (i := 4) (v := .int .i64 q) rfl (by kernel_rfl) (by kernel_rfl) (by kernel_rfl) (by kernel_rfl) (by kernel_rfl) (fun _ _ _ h => h) (Or.inl ⟨by kernel_rfl, ?_⟩) HS ?_
        · intro W hSw; go_simp
        try simp only [Act.put, List.getElem_toArray, List.getElem_cons_succ, List.getElem_cons_zero, List.setIfInBounds_toArray, List.set_cons_succ, List.set_cons_zero]
        refine wpAnyE_one (i := 2) (by kernel_rfl) rfl (fun K hK => ?_)
        go_simp
        go_at_call 13
        refine (HAp.out _ HS).mono ?_
        rintro e w7 ⟨rfl, hw7⟩
        try go_simp
        refine hK.out _ _ (.inr hw7) ?_
        clear hK K
        try simp only [Act.put, List.getElem_toArray, List.getElem_cons_succ, List.getElem_cons_zero, List.setIfInBounds_toArray, List.set_cons_succ, List.set_cons_zero]
        refine wpAnyE_one (i := 5) (by kernel_rfl) rfl (fun K hK => ?_)
        go_simp
        go_at_call 13
        refine (HAq.out _ hw7).mono ?_
        rintro e w8 ⟨rfl, hw8⟩
        try go_simp
        refine hK.out _ _ (.inr hw8) ?_
        clear hK K
        try simp only [Act.put, List.getElem_toArray, List.getElem_cons_succ, List.getElem_cons_zero, List.setIfInBounds_toArray, List.set_cons_succ, List.set_cons_zero]
        refine wpAnyE_take (i := 6) (v := .bool false) rfl (by kernel_rfl) (by kernel_rfl) (by kernel_rfl) (by kernel_rfl) (by kernel_rfl) (fun _ _ _ h => h) (Or.inl ⟨by kernel_rfl, ?_⟩) hw8 ?_
        · intro W hSw; go_simp
        try simp only [Act.put, List.getElem_toArray, List.getElem_cons_succ, List.getElem_cons_zero, List.setIfInBounds_toArray, List.set_cons_succ, List.set_cons_zero]
        refine wpAnyE_take (i := 7) (v := .bool false) rfl (by kernel_rfl) (by kernel_rfl) (by kernel_rfl) (by kernel_rfl) (by kernel_rfl) (fun _ _ _ h => h) (Or.inl ⟨by kernel_rfl, ?_⟩) hw8 ?_
        · intro W hSw; go_simp
        try simp only [Act.put, List.getElem_toArray, List.getElem_cons_succ, List.getElem_cons_zero, List.setIfInBounds_toArray, List.set_cons_succ, List.set_cons_zero]
        refine wpAnyE_take (i := 8) (v := .int .i64 fx) rfl (by kernel_rfl) (by kernel_rfl) (by kernel_rfl) (by kernel_rfl) (by kernel_rfl) (fun _ _ _ h => h) (Or.inl ⟨by kernel_rfl, ?_⟩) hw8 ?_
        · intro W hSw; go_simp
        try simp only [Act.put, List.getElem_toArray, List.getElem_cons_succ, List.getElem_cons_zero, List.setIfInBounds_toArray, List.set_cons_succ, List.set_cons_zero]
        refine wpAnyE_take (i := 9) (v := .int .i64 fy) rfl (by kernel_rfl) (by kernel_rfl) (by kernel_rfl) (by kernel_rfl) (by kernel_rfl) (fun _ _ _ h => h) (Or.inl ⟨by kernel_rfl, ?_⟩) hw8 ?_
        · intro W hSw; go_simp
        try simp only [Act.put, List.getElem_toArray, List.getElem_cons_succ, List.getElem_cons_zero, List.setIfInBounds_toArray, List.set_cons_succ, List.set_cons_zero]
        refine wpAnyE_take (i := 10) (v := .bool true) rfl (by kernel_rfl) (by kernel_rfl) (by kernel_rfl) (by kernel_rfl) (by kernel_rfl) (fun _ _ _ h => h) (Or.inl ⟨by kernel_rfl, ?_⟩) hw8 ?_
        · intro W hSw; go_simp
        try simp only [Act.put, List.getElem_toArray, List.getElem_cons_succ, List.getElem_cons_zero, List.setIfInBounds_toArray, List.set_cons_succ, List.set_cons_zero]
        refine wpAnyE_take (i := 11) (v := .bool true) rfl (by kernel_rfl) (by kernel_rfl) (by kernel_rfl) (by kernel_rfl) (by kernel_rfl) (fun _ _ _ h => h) (Or.inl ⟨by kernel_rfl, ?_⟩) hw8 ?_
        · intro W hSw; go_simp
        try simp only [Act.put, List.getElem_toArray, List.getElem_cons_succ, List.getElem_cons_zero, List.setIfInBounds_toArray, List.set_cons_succ, List.set_cons_zero]
        refine wpAnyE_take (i := 12) (v := .bool true) rfl (by kernel_rfl) (by kernel_rfl) (by kernel_rfl) (by kernel_rfl) (by kernel_rfl) (fun _ _ _ h => h) (Or.inl ⟨by kernel_rfl, ?_⟩) hw8 ?_
        · intro W hSw; go_simp
        try simp only [Act.put, List.getElem_toArray, List.getElem_cons_succ, List.getElem_cons_zero, List.setIfInBounds_toArray, List.set_cons_succ, List.set_cons_zero]
        refine wpAnyE_done (by kernel_rfl) ?_ _
        go_wp2
        go_ret
        exact ⟨rfl, (hw8).below⟩
      · have hI : ¬ (tp : Int) = tq := by omega
        have b1 : ((tp : Int) == (tq : Int)) = false := beq_eq_false_iff_ne.2 hI
        have b2 : ((tp : Int) != (tq : Int)) = true := by unfold bne; rw [b1]; rfl
        have b3 : (tp == tq) = false := beq_eq_false_iff_ne.2 heq
        have b4 : decide (tp = tq) = false := decide_eq_false heq
        clear heq hI HM
        refine wp_region_E (S := fun W => Boxed w W A n c l m) (late := []) (by kernel_rfl) ?_
        have HS := hbx.drew
        refine wpAnyE_take (i := 0) (v := .agg #[.slice A n c, .int .i64 l, .int .i64 m]) rfl (by kernel_rfl) (by kernel_rfl) (by kernel_rfl) (by kernel_rfl) (by kernel_rfl) (fun _ _ _ h => h) (Or.inl ⟨by kernel_rfl, ?_⟩) HS ?_
        · intro W hSw; obtain ⟨y0, y1, y2⟩ := hSw.cells; go_simp
        try simp only [Act.put, List.getElem_toArray, List.getElem_cons_succ, List.getElem_cons_zero, List.setIfInBounds_toArray, List.set_cons_succ, List.set_cons_zero]
        refine wpAnyE_take (i := 1) (v := .int .i64 p) rfl (by kernel_rfl) (by kernel_rfl) (by kernel_rfl) (by kernel_rfl) (by kernel_rfl) (fun _ _ _ h => h) (Or.inl ⟨by kernel_rfl, ?_⟩) HS ?_
        · intro W hSw; go_simp
        try simp only [Act.put, List.getElem_toArray, List.getElem_cons_succ, List.getElem_cons_zero, List.setIfInBounds_toArray, List.set_cons_succ, List.set_cons_zero]
        refine wpAnyE_take (i := 3) (v := .agg #[.slice A n c, .int .i64 l, .int .i64 m]) rfl (by kernel_rfl) (by kernel_rfl) (by kernel_rfl) (by kernel_rfl) (by kernel_rfl) (fun _ _ _ h => h) (Or.inl ⟨by kernel_rfl, ?_⟩) HS ?_
        · intro W hSw; obtain ⟨y0, y1, y2⟩ := hSw.cells; go_simp
        try simp only [Act.put, List.getElem_toArray, List.getElem_cons_succ, List.getElem_cons_zero, List.setIfInBounds_toArray, List.set_cons_succ, List.set_cons_zero]
        refine wpAnyE_take (i := 4) (v := .int .i64 q) rfl (by kernel_rfl) (by kernel_rfl) (by kernel_rfl) (by kernel_rfl) (by kernel_rfl) (fun _ _ _ h => h) (Or.inl ⟨by kernel_rfl, ?_⟩) HS ?_
        · intro W hSw; go_simp
        try simp only [Act.put, List.getElem_toArray, List.getElem_cons_succ, List.getElem_cons_zero, List.setIfInBounds_toArray, List.set_cons_succ, List.set_cons_zero]
        refine wpAnyE_one (i := 2) (by kernel_rfl) rfl (fun K hK => ?_)
        go_simp
        go_at_call 13
        refine (HAp.out _ HS).mono ?_
        rintro e w7 ⟨rfl, hw7⟩
        try go_simp
        refine hK.out _ _ (.inr hw7) ?_
        clear hK K
        try simp only [Act.put, List.getElem_toArray, List.getElem_cons_succ, List.getElem_cons_zero, List.setIfInBounds_toArray, List.set_cons_succ, List.set_cons_zero]
        refine wpAnyE_one (i := 5) (by kernel_rfl) rfl (fun K hK => ?_)
        go_simp
        go_at_call 13
        refine (HAq.out _ hw7).mono ?_
        rintro e w8 ⟨rfl, hw8⟩
        try go_simp
        refine hK.out _ _ (.inr hw8) ?_
        clear hK K
        try simp only [Act.put, List.getElem_toArray, List.getElem_cons_succ, List.getElem_cons_zero, List.setIfInBounds_toArray, List.set_cons_succ, List.set_cons_zero]
        refine wpAnyE_take (i := 6) (v := .bool true) rfl (by kernel_rfl) (by kernel_rfl) (by kernel_rfl) (by kernel_rfl) (by kernel_rfl) (fun _ _ _ h => h) (Or.inl ⟨by kernel_rfl, ?_⟩) hw8 ?_
        · intro W hSw; go_simp
        try simp only [Act.put, List.getElem_toArray, List.getElem_cons_succ, List.getElem_cons_zero, List.setIfInBounds_toArray, List.set_cons_succ, List.set_cons_zero]
        refine wpAnyE_take (i := 7) (v := .bool true) rfl (by kernel_rfl) (by kernel_rfl) (by kernel_rfl) (by kernel_rfl) (by kernel_rfl) (fun _ _ _ h => h) (Or.inl ⟨by kernel_rfl, ?_⟩) hw8 ?_
        · intro W hSw; go_simp
        try simp only [Act.put, List.getElem_toArray, List.getElem_cons_succ, List.getElem_cons_zero, List.setIfInBounds_toArray, List.set_cons_succ, List.set_cons_zero]
        refine wpAnyE_take (i := 8) (v := undef) rfl (by kernel_rfl) (by kernel_rfl) (by kernel_rfl) (by kernel_rfl) (by kernel_rfl) (fun _ _ _ h => h) (Or.inr ⟨by kernel_rfl, rfl⟩) hw8 ?_
        try simp only [Act.put, List.getElem_toArray, List.getElem_cons_succ, List.getElem_cons_zero, List.setIfInBounds_toArray, List.set_cons_succ, List.set_cons_zero]
        refine wpAnyE_take (i := 9) (v := undef) rfl (by kernel_rfl) (by kernel_rfl) (by kernel_rfl) (by kernel_rfl) (by kernel_rfl) (fun _ _ _ h => h) (Or.inr ⟨by kernel_rfl, rfl⟩) hw8 ?_
        try simp only [Act.put, List.getElem_toArray, List.getElem_cons_succ, List.getElem_cons_zero, List.setIfInBounds_toArray, List.set_cons_succ, List.set_cons_zero]
        refine wpAnyE_take (i := 10) (v := undef) rfl (by kernel_rfl) (by kernel_rfl) (by kernel_rfl) (by kernel_rfl) (by kernel_rfl) (fun _ _ _ h => h) (Or.inr ⟨by kernel_rfl, rfl⟩) hw8 ?_
        try simp only [Act.put, List.getElem_toArray, List.getElem_cons_succ, List.getElem_cons_zero, List.setIfInBounds_toArray, List.set_cons_succ, List.set_cons_zero]
        refine wpAnyE_take (i := 11) (v := .bool true) rfl (by kernel_rfl) (by kernel_rfl) (by kernel_rfl) (by kernel_rfl) (by kernel_rfl) (fun _ _ _ h => h) (Or.inl ⟨by kernel_rfl, ?_⟩) hw8 ?_
        · intro W hSw; go_simp
        try simp only [Act.put, List.getElem_toArray, List.getElem_cons_succ, List.getElem_cons_zero, List.setIfInBounds_toArray, List.set_cons_succ, List.set_cons_zero]
        refine wpAnyE_take (i := 12) (v := .bool true) rfl (by kernel_rfl) (by kernel_rfl) (by kernel_rfl) (by kernel_rfl) (by kernel_rfl) (fun _ _ _ h => h) (Or.inl ⟨by kernel_rfl, ?_⟩) hw8 ?_
        · intro W hSw; go_simp
        try simp only [Act.put, List.getElem_toArray, List.getElem_cons_succ, List.getElem_cons_zero, List.setIfInBounds_toArray, List.set_cons_succ, List.set_cons_zero]
        refine wpAnyE_done (by kernel_rfl) ?_ _
        go_wp2
        go_ret
        exact ⟨rfl, (hw8).below⟩
end Go.Proofs.YtikkocdbaekjmaaGreatDoor
