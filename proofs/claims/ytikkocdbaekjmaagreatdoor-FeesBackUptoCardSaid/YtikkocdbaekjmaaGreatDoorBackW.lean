/- remitlaw18.FeesBack: walked. -/
import Derived.Test.YtikkocdbaekjmaaGreatDoorBackP
import Derived.Test.YtikkocdbaekjmaaGreatDoorFeeI
import Derived.Test.YtikkocdbaekjmaaGreatDoorHeldR
namespace Go.Proofs.YtikkocdbaekjmaaGreatDoor
open Go.RowKit
set_option maxRecDepth 100000 in
set_option maxHeartbeats 4000000 in
theorem back_walk (B : Nat → Addr) (A : Option Addr) (n c : Nat) (t : Nat → Tier) (l m : Int) (A2 : Option Addr) (n2 c2 : Nat) (t2 : Nat → Tier) (l2 m2 : Int) (s : ByteArray) (M : Int) (w : World) (hs : s.size < 4294967281) (hm : w.cell? ⟨39, 0, none⟩ = some (.int .i64 M)) (hE : Env w B) (htab : Tab w) (hT : Tiers w A n t) (hT2 : Tiers w A2 n2 t2) :
    Calls Tryz.prog 5 #[feeV A n c l m, feeV A2 n2 c2 l2 m2, .string s] w fun e w' => e = .returned (.bool true) ∧ Below w.heap.size w w' := by
  have HE := Lib.hid hE; have HT := Lib.hid hT; have HT2 := Lib.hid hT2; have HTB := Lib.hid htab; have HM := Lib.hid hm
  have HX := Lib.hid (Boxed.new w A n c l m)
  have hw1 : (w.alloc (.cells #[.slice A n c, .int .i64 l, .int .i64 m] 25)).heap.size = w.heap.size + 1 := by simp
  have HY := Lib.hid (Boxed.new (w.alloc (.cells #[.slice A n c, .int .i64 l, .int .i64 m] 25)) A2 n2 c2 l2 m2)
  have HXY := Lib.hid (HX.out.step HY.out.below)
  have YB := Lib.hid (show ∀ wx, Below ((w.alloc (.cells #[.slice A n c, .int .i64 l, .int .i64 m] 25)).alloc (.cells #[.slice A2 n2 c2, .int .i64 l2, .int .i64 m2] 25)).heap.size ((w.alloc (.cells #[.slice A n c, .int .i64 l, .int .i64 m] 25)).alloc (.cells #[.slice A2 n2 c2, .int .i64 l2, .int .i64 m2] 25)) wx → wx.heap[w.heap.size + 1]? = some (.cells #[.slice A2 n2 c2, .int .i64 l2, .int .i64 m2] 25 (0, 0)) from fun wx hb => by
    have h1 := (HY.out.step hb).box
    rw [hw1] at h1
    exact h1)
  have a1 := lives_any B M _ ((HXY.out.below.cell (p := ⟨39, 0, none⟩) (World.block_lt_of_cell? _ _ hm)).trans hm) (HE.out.below HXY.out.below) (tab_below htab HXY.out.below)
  unfold feeV
  clear hE hT hT2 htab hm HX HY
  go_enter Tryz.func5, Tryz.ntmps5
  go_upto_region 1 with fail
  generalize (w.alloc (.cells #[.slice A n c, .int .i64 l, .int .i64 m] 25)).alloc (.cells #[.slice A2 n2 c2, .int .i64 l2, .int .i64 m2] 25) = w1 at *
  clear hw1
  go_wp2_with fail
  refine a1.mono ?_
  clear a1
  rintro e w2 ⟨rfl, hb2⟩
  have HX2 := Lib.hid (HXY.out.step hb2)
  have HL2 := Lib.hid hb2
  clear hb2 HXY
  have a2 := ftext_any B A n c t l m w2 (HE.out.below HX2.out.below) (HT.out.step HX2.out.below) (tab_below HTB.out HX2.out.below)
  unfold feeV at a2
  obtain ⟨x0, x1, x2⟩ := HX2.out.cells
  go_wp2_with fail
  refine a2.mono ?_
  clear a2 x0 x1 x2
  rintro e w3 ⟨rfl, hb3⟩
  have HX3 := Lib.hid (HX2.out.step hb3)
  have HL3 := Lib.hid (HL2.out.trans (hb3.mono HL2.out.size))
  have HCK := Lib.hid (show ∀ wx, Boxed w wx A n c l m ∧ Below w1.heap.size w1 wx → Calls Tryz.prog 14 #[.agg #[.slice A n c, .int .i64 l, .int .i64 m]] wx fun e w' => e = .returned (chkV B (goodB n t l m)) ∧ (Boxed w w' A n c l m ∧ Below w1.heap.size w1 w') from fun wx h => (check_any B A n c t l m wx (HE.out.below h.1.below) (HT.out.step h.1.below)).mono fun e w' h2 => ⟨h2.1, h.1.step h2.2, h.2.trans (h2.2.mono h.2.size)⟩)
  clear hb3 HX2 HL2
  cases hG : goodB n t l m with
  | false =>
    rw [show txtV B n t l m = .tuple #[.string ⟨#[]⟩, .iface 292 (.pointer (some (B 0)))] by unfold txtV; rw [hG]; rfl]
    rw [hG, show chkV B false = .iface 292 (.pointer (some (B 0))) from rfl] at HCK
    clear hG
    go_upto_region 4 with fail
    refine wp_region_R (S := fun W => Boxed w W A n c l m ∧ Below w1.heap.size w1 W) (late := []) (by kernel_rfl) ?_
    have HSD := Lib.hid (show Boxed w w3.drew A n c l m ∧ Below w1.heap.size w1 w3.drew from ⟨⟨HX3.out.below.drew, HX3.out.box⟩, HL3.out.drew⟩)
    refine wpAnyR_takeY (i := 0) (v := .iface 292 (.pointer (some (B 0)))) rfl (by kernel_rfl) (by kernel_rfl) (by kernel_rfl) (fun _ _ _ h => h) (Or.inl ⟨by kernel_rfl, ?_⟩) ?_
    · intro W _; go_simp
    try simp only [Act.put, List.getElem_toArray, List.getElem_cons_succ, List.getElem_cons_zero, List.setIfInBounds_toArray, List.set_cons_succ, List.set_cons_zero]
    refine wpAnyR_takeY (i := 1) (v := .bool false) rfl (by kernel_rfl) (by kernel_rfl) (by kernel_rfl) (fun _ _ _ h => h) (Or.inl ⟨by kernel_rfl, ?_⟩) ?_
    · intro W _; go_simp
    try simp only [Act.put, List.getElem_toArray, List.getElem_cons_succ, List.getElem_cons_zero, List.setIfInBounds_toArray, List.set_cons_succ, List.set_cons_zero]
    refine wpAnyR_take (i := 2) (v := .agg #[.slice A n c, .int .i64 l, .int .i64 m]) rfl (by kernel_rfl) (by kernel_rfl) (by kernel_rfl) (by kernel_rfl) (by kernel_rfl) (fun _ _ _ h => h) (Or.inl ⟨by kernel_rfl, ?_⟩) HSD.out ?_
    · intro W hSw; obtain ⟨y0, y1, y2⟩ := hSw.1.cells; go_simp
    try simp only [Act.put, List.getElem_toArray, List.getElem_cons_succ, List.getElem_cons_zero, List.setIfInBounds_toArray, List.set_cons_succ, List.set_cons_zero]
    refine wpAnyR_one (i := 3) (by kernel_rfl) rfl (fun K hK => ?_)
    go_simp
    go_at_call 14
    refine (HCK.out _ HSD.out).mono ?_
    rintro e w5 ⟨rfl, hw5⟩
    have HS5 := Lib.hid hw5
    try go_simp
    refine hK.out _ _ (.inr fun _ => hw5) ?_
    clear hK K hw5
    try simp only [Act.put, List.getElem_toArray, List.getElem_cons_succ, List.getElem_cons_zero, List.setIfInBounds_toArray, List.set_cons_succ, List.set_cons_zero]
    refine wpAnyR_takeY (i := 4) (v := .bool false) rfl (by kernel_rfl) (by kernel_rfl) (by kernel_rfl) (fun _ _ _ h => h) (Or.inl ⟨by kernel_rfl, ?_⟩) ?_
    · intro W _; go_simp
    try simp only [Act.put, List.getElem_toArray, List.getElem_cons_succ, List.getElem_cons_zero, List.setIfInBounds_toArray, List.set_cons_succ, List.set_cons_zero]
    refine wpAnyR_takeY (i := 5) (v := .bool false) rfl (by kernel_rfl) (by kernel_rfl) (by kernel_rfl) (fun _ _ _ h => h) (Or.inl ⟨by kernel_rfl, ?_⟩) ?_
    · intro W _; go_simp
    try simp only [Act.put, List.getElem_toArray, List.getElem_cons_succ, List.getElem_cons_zero, List.setIfInBounds_toArray, List.set_cons_succ, List.set_cons_zero]
    refine wpAnyR_takeY (i := 6) (v := .bool false) rfl (by kernel_rfl) (by kernel_rfl) (by kernel_rfl) (fun _ _ _ h => h) (Or.inl ⟨by kernel_rfl, ?_⟩) ?_
    · intro W _; go_simp
    try simp only [Act.put, List.getElem_toArray, List.getElem_cons_succ, List.getElem_cons_zero, List.setIfInBounds_toArray, List.set_cons_succ, List.set_cons_zero]
    refine wpAnyR_takeY (i := 7) (v := .iface 292 (.pointer (some (B 0)))) rfl (by kernel_rfl) (by kernel_rfl) (by kernel_rfl) (fun _ _ _ h => h) (Or.inl ⟨by kernel_rfl, ?_⟩) ?_
    · intro W _; go_simp
    try simp only [Act.put, List.getElem_toArray, List.getElem_cons_succ, List.getElem_cons_zero, List.setIfInBounds_toArray, List.set_cons_succ, List.set_cons_zero]
    refine wpAnyR_takeY (i := 8) (v := .bool true) rfl (by kernel_rfl) (by kernel_rfl) (by kernel_rfl) (fun _ _ _ h => h) (Or.inl ⟨by kernel_rfl, ?_⟩) ?_
    · intro W _; go_simp
    try simp only [Act.put, List.getElem_toArray, List.getElem_cons_succ, List.getElem_cons_zero, List.setIfInBounds_toArray, List.set_cons_succ, List.set_cons_zero]
    refine wpAnyR_takeY (i := 9) (v := .bool true) rfl (by kernel_rfl) (by kernel_rfl) (by kernel_rfl) (fun _ _ _ h => h) (Or.inl ⟨by kernel_rfl, ?_⟩) ?_
    · intro W _; go_simp
    try simp only [Act.put, List.getElem_toArray, List.getElem_cons_succ, List.getElem_cons_zero, List.setIfInBounds_toArray, List.set_cons_succ, List.set_cons_zero]
    refine wpAnyR_takeY (i := 10) (v := .string ⟨#[]⟩) rfl (by kernel_rfl) (by kernel_rfl) (by kernel_rfl) (fun _ _ _ h => h) (Or.inl ⟨by kernel_rfl, ?_⟩) ?_
    · intro W _; go_simp
    try simp only [Act.put, List.getElem_toArray, List.getElem_cons_succ, List.getElem_cons_zero, List.setIfInBounds_toArray, List.set_cons_succ, List.set_cons_zero]
    refine wpAnyR_takeY (i := 11) (v := .bool false) rfl (by kernel_rfl) (by kernel_rfl) (by kernel_rfl) (fun _ _ _ h => h) (Or.inl ⟨by kernel_rfl, ?_⟩) ?_
    · intro W _; go_simp
    try simp only [Act.put, List.getElem_toArray, List.getElem_cons_succ, List.getElem_cons_zero, List.setIfInBounds_toArray, List.set_cons_succ, List.set_cons_zero]
    refine wpAnyR_takeY (i := 12) (v := .bool false) rfl (by kernel_rfl) (by kernel_rfl) (by kernel_rfl) (fun _ _ _ h => h) (Or.inl ⟨by kernel_rfl, ?_⟩) ?_
    · intro W _; go_simp
    try simp only [Act.put, List.getElem_toArray, List.getElem_cons_succ, List.getElem_cons_zero, List.setIfInBounds_toArray, List.set_cons_succ, List.set_cons_zero]
    refine wpAnyR_takeY (i := 13) (v := .bool false) rfl (by kernel_rfl) (by kernel_rfl) (by kernel_rfl) (fun _ _ _ h => h) (Or.inl ⟨by kernel_rfl, ?_⟩) ?_
    · intro W _; go_simp
    try simp only [Act.put, List.getElem_toArray, List.getElem_cons_succ, List.getElem_cons_zero, List.setIfInBounds_toArray, List.set_cons_succ, List.set_cons_zero]
    refine wpAnyR_done (by kernel_rfl) ?_ _
    have HBV := Lib.hid HS5.out.1.below
    clear HX3 HL3 HSD
    go_upto_region 6 with fail
    go_upto_region 13 with fail
    have aP := parse_any B s M w5 hs ((HBV.out.cell (p := ⟨39, 0, none⟩) (World.block_lt_of_cell? _ _ HM.out)).trans HM.out) (HE.out.below HBV.out) (tab_below HTB.out HBV.out)
    go_wp2_with fail
    refine aP.mono ?_
    clear aP
    rintro e wp ⟨hbp, ⟨ts, lp, mp, Ap, cp, hps, hop, rfl⟩ | ⟨hps, rfl⟩⟩
    · have GI := parseF_iff.1 hps
      have HGI := Lib.hid GI.1
      have HBQ := Lib.hid ((HBV.out.trans (hbp.mono HBV.out.size)).alloc (HBV.out.trans (hbp.mono HBV.out.size)).size (.cells #[.slice Ap ts.length cp, .int .i64 (lp : Nat), .int .i64 (mp : Nat)] 25))
      have HXQ := Lib.hid (show (wp.alloc (.cells #[.slice Ap ts.length cp, .int .i64 (lp : Nat), .int .i64 (mp : Nat)] 25)).heap[wp.heap.size]? = some (.cells #[.slice Ap ts.length cp, .int .i64 (lp : Nat), .int .i64 (mp : Nat)] 25 (0, 0)) from heap_alloc_new wp _)
      have HOQ := Lib.hid (hop.step (Below.new wp (.cells #[.slice Ap ts.length cp, .int .i64 (lp : Nat), .int .i64 (mp : Nat)] 25)))
      go_upto_region 14 with fail
      generalize wp.alloc (.cells #[.slice Ap ts.length cp, .int .i64 (lp : Nat), .int .i64 (mp : Nat)] 25) = wq at *
      generalize wp.heap.size = gq at *
      have aT := ftext_any B Ap ts.length cp (tierAt ts) lp mp wq (HE.out.below HBQ.out) (tiers_own HOQ.out) (tab_below HTB.out HBQ.out)
      rw [show txtV B ts.length (tierAt ts) lp mp = .tuple #[.string ⟨(feeTxt ts.length (tierAt ts) lp mp).toArray⟩, .nilIface] by unfold txtV; rw [if_pos HGI.out]] at aT
      have hx : (⟨(feeTxt ts.length (tierAt ts) lp mp).toArray⟩ : ByteArray).toList = s.toList := by rw [bytes_toList, bytes_toList]; exact GI.2
      generalize (⟨(feeTxt ts.length (tierAt ts) lp mp).toArray⟩ : ByteArray) = x at *
      have qx : (x.toList == s.toList) = true := by rw [hx]; exact beq_self_eq_true _
      unfold feeV at aT
      obtain ⟨x0, x1, x2⟩ := box3 HXQ.out
      clear hx GI hbp hop hps
      go_wp2_with fail
      refine aT.mono ?_
      clear aT x0 x1 x2
      rintro e wr ⟨rfl, hbr⟩
      have HBR := Lib.hid (HBQ.out.trans (hbr.mono HBQ.out.size))
      have HXR := Lib.hid ((hbr.block _ (lt_of_block HXQ.out)).trans HXQ.out)
      have HOR := Lib.hid (HOQ.out.step hbr)
      have aC := check_any B Ap ts.length cp (tierAt ts) lp mp wr (HE.out.below HBR.out) (tiers_own HOR.out)
      rw [HGI.out, show chkV B true = .nilIface from rfl] at aC
      unfold feeV at aC
      obtain ⟨x0, x1, x2⟩ := box3 HXR.out
      clear hbr
      go_wp2_with fail
      refine aC.mono ?_
      clear aC
      rintro e wt ⟨rfl, hbt⟩
      have HBT := Lib.hid (HBR.out.trans (hbt.mono HBR.out.size))
      clear hbt
      go_wp2_with fail
      go_ret
      exact ⟨rfl, HBT.out⟩
    · have HBQ := Lib.hid ((HBV.out.trans (hbp.mono HBV.out.size)).alloc (HBV.out.trans (hbp.mono HBV.out.size)).size (.cells #[.slice none 0 0, .int .i64 0, .int .i64 0] 25))
      have HXQ := Lib.hid (show (wp.alloc (.cells #[.slice none 0 0, .int .i64 0, .int .i64 0] 25)).heap[wp.heap.size]? = some (.cells #[.slice none 0 0, .int .i64 0, .int .i64 0] 25 (0, 0)) from heap_alloc_new wp _)
      rw [show ev B 7 = .iface 292 (.pointer (some (B 0))) from rfl]
      go_upto_region 14 with fail
      generalize wp.alloc (.cells #[.slice none 0 0, .int .i64 0, .int .i64 0] 25) = wq at *
      generalize wp.heap.size = gq at *
      have aS := same_any none none 0 0 0 0 (fun _ => ⟨0, 0, 0⟩) (fun _ => ⟨0, 0, 0⟩) 0 0 0 0 wq (.inl rfl) (.inl rfl) (by decide)
      rw [show sameB 0 (fun _ => (⟨0, 0, 0⟩ : Tier)) 0 0 0 (fun _ => (⟨0, 0, 0⟩ : Tier)) 0 0 = true from rfl] at aS
      unfold feeV at aS
      obtain ⟨x0, x1, x2⟩ := box3 HXQ.out
      clear hbp hps
      go_wp2_with fail
      refine aS.mono ?_
      clear aS
      rintro e wr ⟨rfl, hbr⟩
      have HBR := Lib.hid (HBQ.out.trans (hbr.mono HBQ.out.size))
      clear hbr
      go_wp2_with fail
      go_ret
      exact ⟨rfl, HBR.out⟩
  | true =>
    rw [show txtV B n t l m = .tuple #[.string ⟨(feeTxt n t l m).toArray⟩, .nilIface] by unfold txtV; rw [if_pos hG]]
    rw [hG, show chkV B true = .nilIface from rfl] at HCK
    have HPB := Lib.hid (good_back hG)
    have HBS := Lib.hid (back_same hG)
    have HN6 := Lib.hid (goodP hG).n6
    have HSZ := Lib.hid (show (⟨(feeTxt n t l m).toArray⟩ : ByteArray).size ≤ 204 by have := fee_short hG; show (feeTxt n t l m).toArray.size ≤ 204; rw [List.size_toArray]; exact this)
    have HTG := Lib.hid (show goodB n2 t2 l2 m2 = true → ((⟨(feeTxt n t l m).toArray⟩ : ByteArray).toList = (⟨(feeTxt n2 t2 l2 m2).toArray⟩ : ByteArray).toList ↔ sameB n t l m n2 t2 l2 m2 = true) from fun k => by rw [bytes_toList, bytes_toList]; exact text_same hG k)
    generalize (⟨(feeTxt n t l m).toArray⟩ : ByteArray) = x at *
    generalize l.toNat = ln at *
    generalize m.toNat = mn at *
    clear hG
    go_upto_region 4 with fail
    refine wp_region_R (S := fun W => Boxed w W A n c l m ∧ Below w1.heap.size w1 W) (late := []) (by kernel_rfl) ?_
    have HSD := Lib.hid (show Boxed w w3.drew A n c l m ∧ Below w1.heap.size w1 w3.drew from ⟨⟨HX3.out.below.drew, HX3.out.box⟩, HL3.out.drew⟩)
    refine wpAnyR_takeY (i := 0) (v := .nilIface) rfl (by kernel_rfl) (by kernel_rfl) (by kernel_rfl) (fun _ _ _ h => h) (Or.inl ⟨by kernel_rfl, ?_⟩) ?_
    · intro W _; go_simp
    try simp only [Act.put, List.getElem_toArray, List.getElem_cons_succ, List.getElem_cons_zero, List.setIfInBounds_toArray, List.set_cons_succ, List.set_cons_zero]
    refine wpAnyR_takeY (i := 1) (v := .bool true) rfl (by kernel_rfl) (by kernel_rfl) (by kernel_rfl) (fun _ _ _ h => h) (Or.inl ⟨by kernel_rfl, ?_⟩) ?_
    · intro W _; go_simp
    try simp only [Act.put, List.getElem_toArray, List.getElem_cons_succ, List.getElem_cons_zero, List.setIfInBounds_toArray, List.set_cons_succ, List.set_cons_zero]
    refine wpAnyR_take (i := 2) (v := .agg #[.slice A n c, .int .i64 l, .int .i64 m]) rfl (by kernel_rfl) (by kernel_rfl) (by kernel_rfl) (by kernel_rfl) (by kernel_rfl) (fun _ _ _ h => h) (Or.inl ⟨by kernel_rfl, ?_⟩) HSD.out ?_
    · intro W hSw; obtain ⟨y0, y1, y2⟩ := hSw.1.cells; go_simp
    try simp only [Act.put, List.getElem_toArray, List.getElem_cons_succ, List.getElem_cons_zero, List.setIfInBounds_toArray, List.set_cons_succ, List.set_cons_zero]
    refine wpAnyR_one (i := 3) (by kernel_rfl) rfl (fun K hK => ?_)
    go_simp
    go_at_call 14
    refine (HCK.out _ HSD.out).mono ?_
    rintro e w5 ⟨rfl, hw5⟩
    have HS5 := Lib.hid hw5
    try go_simp
    refine hK.out _ _ (.inr fun _ => hw5) ?_
    clear hK K hw5
    try simp only [Act.put, List.getElem_toArray, List.getElem_cons_succ, List.getElem_cons_zero, List.setIfInBounds_toArray, List.set_cons_succ, List.set_cons_zero]
    refine wpAnyR_takeY (i := 4) (v := .bool true) rfl (by kernel_rfl) (by kernel_rfl) (by kernel_rfl) (fun _ _ _ h => h) (Or.inl ⟨by kernel_rfl, ?_⟩) ?_
    · intro W _; go_simp
    try simp only [Act.put, List.getElem_toArray, List.getElem_cons_succ, List.getElem_cons_zero, List.setIfInBounds_toArray, List.set_cons_succ, List.set_cons_zero]
    refine wpAnyR_takeY (i := 5) (v := .bool false) rfl (by kernel_rfl) (by kernel_rfl) (by kernel_rfl) (fun _ _ _ h => h) (Or.inl ⟨by kernel_rfl, ?_⟩) ?_
    · intro W _; go_simp
    try simp only [Act.put, List.getElem_toArray, List.getElem_cons_succ, List.getElem_cons_zero, List.setIfInBounds_toArray, List.set_cons_succ, List.set_cons_zero]
    refine wpAnyR_takeY (i := 6) (v := .bool false) rfl (by kernel_rfl) (by kernel_rfl) (by kernel_rfl) (fun _ _ _ h => h) (Or.inl ⟨by kernel_rfl, ?_⟩) ?_
    · intro W _; go_simp
    try simp only [Act.put, List.getElem_toArray, List.getElem_cons_succ, List.getElem_cons_zero, List.setIfInBounds_toArray, List.set_cons_succ, List.set_cons_zero]
    refine wpAnyR_takeY (i := 7) (v := .nilIface) rfl (by kernel_rfl) (by kernel_rfl) (by kernel_rfl) (fun _ _ _ h => h) (Or.inl ⟨by kernel_rfl, ?_⟩) ?_
    · intro W _; go_simp
    try simp only [Act.put, List.getElem_toArray, List.getElem_cons_succ, List.getElem_cons_zero, List.setIfInBounds_toArray, List.set_cons_succ, List.set_cons_zero]
    refine wpAnyR_takeY (i := 8) (v := .bool false) rfl (by kernel_rfl) (by kernel_rfl) (by kernel_rfl) (fun _ _ _ h => h) (Or.inl ⟨by kernel_rfl, ?_⟩) ?_
    · intro W _; go_simp
    try simp only [Act.put, List.getElem_toArray, List.getElem_cons_succ, List.getElem_cons_zero, List.setIfInBounds_toArray, List.set_cons_succ, List.set_cons_zero]
    refine wpAnyR_takeY (i := 9) (v := .bool false) rfl (by kernel_rfl) (by kernel_rfl) (by kernel_rfl) (fun _ _ _ h => h) (Or.inl ⟨by kernel_rfl, ?_⟩) ?_
    · intro W _; go_simp
    try simp only [Act.put, List.getElem_toArray, List.getElem_cons_succ, List.getElem_cons_zero, List.setIfInBounds_toArray, List.set_cons_succ, List.set_cons_zero]
    refine wpAnyR_takeY (i := 10) (v := undef) rfl (by kernel_rfl) (by kernel_rfl) (by kernel_rfl) (fun _ _ _ h => h) (Or.inr ⟨by kernel_rfl, rfl⟩) ?_
    try simp only [Act.put, List.getElem_toArray, List.getElem_cons_succ, List.getElem_cons_zero, List.setIfInBounds_toArray, List.set_cons_succ, List.set_cons_zero]
    refine wpAnyR_takeY (i := 11) (v := undef) rfl (by kernel_rfl) (by kernel_rfl) (by kernel_rfl) (fun _ _ _ h => h) (Or.inr ⟨by kernel_rfl, rfl⟩) ?_
    try simp only [Act.put, List.getElem_toArray, List.getElem_cons_succ, List.getElem_cons_zero, List.setIfInBounds_toArray, List.set_cons_succ, List.set_cons_zero]
    refine wpAnyR_takeY (i := 12) (v := .bool false) rfl (by kernel_rfl) (by kernel_rfl) (by kernel_rfl) (fun _ _ _ h => h) (Or.inl ⟨by kernel_rfl, ?_⟩) ?_
    · intro W _; go_simp
    try simp only [Act.put, List.getElem_toArray, List.getElem_cons_succ, List.getElem_cons_zero, List.setIfInBounds_toArray, List.set_cons_succ, List.set_cons_zero]
    refine wpAnyR_takeY (i := 13) (v := .bool false) rfl (by kernel_rfl) (by kernel_rfl) (by kernel_rfl) (fun _ _ _ h => h) (Or.inl ⟨by kernel_rfl, ?_⟩) ?_
    · intro W _; go_simp
    try simp only [Act.put, List.getElem_toArray, List.getElem_cons_succ, List.getElem_cons_zero, List.setIfInBounds_toArray, List.set_cons_succ, List.set_cons_zero]
    refine wpAnyR_done (by kernel_rfl) ?_ _
    have HBV := Lib.hid HS5.out.1.below
    clear HX3 HL3 HSD
    go_upto_region 7 with fail
    have aP := parse_any B x M w5 (by have := HSZ.out; omega) ((HS5.out.1.below.cell (p := ⟨39, 0, none⟩) (World.block_lt_of_cell? _ _ HM.out)).trans HM.out) (HE.out.below HS5.out.1.below) (tab_below HTB.out HS5.out.1.below)
    go_wp2_with fail
    refine aP.mono ?_
    clear aP
    rintro e w6 ⟨hb6, ⟨tsb, lb, mb, Ab, cb, hps, hop, rfl⟩ | ⟨hps, rfl⟩⟩
    case inr => rw [HPB.out] at hps; cases hps
    rw [HPB.out] at hps
    injection hps with hps
    injection hps with hp1 hps
    injection hps with hp2 hp3
    subst hp1; subst hp2; subst hp3
    have HLN := Lib.hid (listOf_len n t)
    have HX6 := Lib.hid (HS5.out.1.step hb6)
    have HL6 := Lib.hid (HS5.out.2.trans (hb6.mono HS5.out.2.size))
    have HX7 := Lib.hid (HX6.out.step (Below.new w6 (.cells #[.slice Ab (listOf n t).length cb, .int .i64 (ln : Nat), .int .i64 (mn : Nat)] 25)))
    have HL7 := Lib.hid (HL6.out.trans ((Below.new w6 (.cells #[.slice Ab (listOf n t).length cb, .int .i64 (ln : Nat), .int .i64 (mn : Nat)] 25)).mono HL6.out.size))
    have HO7 := Lib.hid (hop.step (Below.new w6 (.cells #[.slice Ab (listOf n t).length cb, .int .i64 (ln : Nat), .int .i64 (mn : Nat)] 25)))
    have HB7 := Lib.hid (show (w6.alloc (.cells #[.slice Ab (listOf n t).length cb, .int .i64 (ln : Nat), .int .i64 (mn : Nat)] 25)).heap[w6.heap.size]? = some (.cells #[.slice Ab (listOf n t).length cb, .int .i64 (ln : Nat), .int .i64 (mn : Nat)] 25 (0, 0)) from heap_alloc_new w6 _)
    clear hb6 hop HX6 HL6 HS5 HCK
    go_upto_region 8 with fail
    generalize w6.alloc (.cells #[.slice Ab (listOf n t).length cb, .int .i64 (ln : Nat), .int .i64 (mn : Nat)] 25) = w7 at *
    generalize w6.heap.size = gb at *
    have aS := same_any Ab A (listOf n t).length cb n c (tierAt (listOf n t)) t (ln : Nat) (mn : Nat) l m w7 (tiers_own HO7.out) (HT.out.step HX7.out.below) (by rw [HLN.out]; have := HN6.out; omega)
    rw [HBS.out] at aS
    unfold feeV at aS
    obtain ⟨x0, x1, x2⟩ := HX7.out.cells
    obtain ⟨y0, y1, y2⟩ := box3 HB7.out
    have q204 : decide ((204 : Int) < (x.size : Nat)) = false := decide_eq_false (by have := HSZ.out; omega)
    have hle : x.size ≤ 204 := HSZ.out
    go_wp2_with fail
    refine aS.mono ?_
    clear aS x0 x1 x2 y0 y1 y2
    rintro e w8 ⟨rfl, hb8⟩
    have HX8 := Lib.hid (HX7.out.step hb8)
    have HL8 := Lib.hid (HL7.out.trans (hb8.mono HL7.out.size))
    clear hb8 HX7 HL7 HO7 HB7
    go_upto_region 10 with fail
    have aT := ftext_any B A2 n2 c2 t2 l2 m2 w8 (HE.out.below HX8.out.below) (HT2.out.step HX8.out.below) (tab_below HTB.out HX8.out.below)
    unfold feeV at aT
    obtain ⟨y0, y1, y2⟩ := box3 (YB.out _ HL8.out)
    go_wp2_with fail
    refine aT.mono ?_
    clear aT y0 y1 y2
    rintro e w9 ⟨rfl, hb9⟩
    have HX9 := Lib.hid (HX8.out.step hb9)
    have HL9 := Lib.hid (HL8.out.trans (hb9.mono HL8.out.size))
    clear hb9 HX8 HL8
    cases hG2 : goodB n2 t2 l2 m2 with
    | false =>
      rw [show txtV B n2 t2 l2 m2 = .tuple #[.string ⟨#[]⟩, .iface 292 (.pointer (some (B 0)))] by unfold txtV; rw [hG2]; rfl]
      have HBV := Lib.hid HX9.out.below
      clear hG2
      go_upto_region 13 with fail
      have aP := parse_any B s M w9 hs ((HBV.out.cell (p := ⟨39, 0, none⟩) (World.block_lt_of_cell? _ _ HM.out)).trans HM.out) (HE.out.below HBV.out) (tab_below HTB.out HBV.out)
      go_wp2_with fail
      refine aP.mono ?_
      clear aP
      rintro e wp ⟨hbp, ⟨ts, lp, mp, Ap, cp, hps, hop, rfl⟩ | ⟨hps, rfl⟩⟩
      · have GI := parseF_iff.1 hps
        have HGI := Lib.hid GI.1
        have HBQ := Lib.hid ((HBV.out.trans (hbp.mono HBV.out.size)).alloc (HBV.out.trans (hbp.mono HBV.out.size)).size (.cells #[.slice Ap ts.length cp, .int .i64 (lp : Nat), .int .i64 (mp : Nat)] 25))
        have HXQ := Lib.hid (show (wp.alloc (.cells #[.slice Ap ts.length cp, .int .i64 (lp : Nat), .int .i64 (mp : Nat)] 25)).heap[wp.heap.size]? = some (.cells #[.slice Ap ts.length cp, .int .i64 (lp : Nat), .int .i64 (mp : Nat)] 25 (0, 0)) from heap_alloc_new wp _)
        have HOQ := Lib.hid (hop.step (Below.new wp (.cells #[.slice Ap ts.length cp, .int .i64 (lp : Nat), .int .i64 (mp : Nat)] 25)))
        go_upto_region 14 with fail
        generalize wp.alloc (.cells #[.slice Ap ts.length cp, .int .i64 (lp : Nat), .int .i64 (mp : Nat)] 25) = wq at *
        generalize wp.heap.size = gq at *
        have aT := ftext_any B Ap ts.length cp (tierAt ts) lp mp wq (HE.out.below HBQ.out) (tiers_own HOQ.out) (tab_below HTB.out HBQ.out)
        rw [show txtV B ts.length (tierAt ts) lp mp = .tuple #[.string ⟨(feeTxt ts.length (tierAt ts) lp mp).toArray⟩, .nilIface] by unfold txtV; rw [if_pos HGI.out]] at aT
        have hx : (⟨(feeTxt ts.length (tierAt ts) lp mp).toArray⟩ : ByteArray).toList = s.toList := by rw [bytes_toList, bytes_toList]; exact GI.2
        generalize (⟨(feeTxt ts.length (tierAt ts) lp mp).toArray⟩ : ByteArray) = x at *
        have qx : (x.toList == s.toList) = true := by rw [hx]; exact beq_self_eq_true _
        unfold feeV at aT
        obtain ⟨x0, x1, x2⟩ := box3 HXQ.out
        clear hx GI hbp hop hps
        go_wp2_with fail
        refine aT.mono ?_
        clear aT x0 x1 x2
        rintro e wr ⟨rfl, hbr⟩
        have HBR := Lib.hid (HBQ.out.trans (hbr.mono HBQ.out.size))
        have HXR := Lib.hid ((hbr.block _ (lt_of_block HXQ.out)).trans HXQ.out)
        have HOR := Lib.hid (HOQ.out.step hbr)
        have aC := check_any B Ap ts.length cp (tierAt ts) lp mp wr (HE.out.below HBR.out) (tiers_own HOR.out)
        rw [HGI.out, show chkV B true = .nilIface from rfl] at aC
        unfold feeV at aC
        obtain ⟨x0, x1, x2⟩ := box3 HXR.out
        clear hbr
        go_wp2_with fail
        refine aC.mono ?_
        clear aC
        rintro e wt ⟨rfl, hbt⟩
        have HBT := Lib.hid (HBR.out.trans (hbt.mono HBR.out.size))
        clear hbt
        go_wp2_with fail
        go_ret
        exact ⟨rfl, HBT.out⟩
      · have HBQ := Lib.hid ((HBV.out.trans (hbp.mono HBV.out.size)).alloc (HBV.out.trans (hbp.mono HBV.out.size)).size (.cells #[.slice none 0 0, .int .i64 0, .int .i64 0] 25))
        have HXQ := Lib.hid (show (wp.alloc (.cells #[.slice none 0 0, .int .i64 0, .int .i64 0] 25)).heap[wp.heap.size]? = some (.cells #[.slice none 0 0, .int .i64 0, .int .i64 0] 25 (0, 0)) from heap_alloc_new wp _)
        rw [show ev B 7 = .iface 292 (.pointer (some (B 0))) from rfl]
        go_upto_region 14 with fail
        generalize wp.alloc (.cells #[.slice none 0 0, .int .i64 0, .int .i64 0] 25) = wq at *
        generalize wp.heap.size = gq at *
        have aS := same_any none none 0 0 0 0 (fun _ => ⟨0, 0, 0⟩) (fun _ => ⟨0, 0, 0⟩) 0 0 0 0 wq (.inl rfl) (.inl rfl) (by decide)
        rw [show sameB 0 (fun _ => (⟨0, 0, 0⟩ : Tier)) 0 0 0 (fun _ => (⟨0, 0, 0⟩ : Tier)) 0 0 = true from rfl] at aS
        unfold feeV at aS
        obtain ⟨x0, x1, x2⟩ := box3 HXQ.out
        clear hbp hps
        go_wp2_with fail
        refine aS.mono ?_
        clear aS
        rintro e wr ⟨rfl, hbr⟩
        have HBR := Lib.hid (HBQ.out.trans (hbr.mono HBQ.out.size))
        clear hbr
        go_wp2_with fail
        go_ret
        exact ⟨rfl, HBR.out⟩
    | true =>
      rw [show txtV B n2 t2 l2 m2 = .tuple #[.string ⟨(feeTxt n2 t2 l2 m2).toArray⟩, .nilIface] by unfold txtV; rw [if_pos hG2]]
      have HTG2 := Lib.hid (HTG.out hG2)
      generalize (⟨(feeTxt n2 t2 l2 m2).toArray⟩ : ByteArray) = y at *
      go_upto_region 11 with fail
      have aS := same_any A A2 n c n2 c2 t t2 l m l2 m2 w9 (HT.out.step HX9.out.below) (HT2.out.step HX9.out.below) (by have := HN6.out; omega)
      unfold feeV at aS
      obtain ⟨x0, x1, x2⟩ := HX9.out.cells
      obtain ⟨y0, y1, y2⟩ := box3 (YB.out _ HL9.out)
      clear hG2 HTG
      cases hS : sameB n t l m n2 t2 l2 m2 with
      | true =>
        have qe : (x.toList == y.toList) = true := beq_iff_eq.2 (HTG2.out.2 hS)
        rw [hS] at aS
        clear hS HTG2
        go_wp2_with fail
        refine aS.mono ?_
        clear aS x0 x1 x2 y0 y1 y2
        rintro e wv ⟨rfl, hbv⟩
        have HBV := Lib.hid (HX9.out.step hbv).below
        clear hbv
        go_upto_region 13 with fail
        have aP := parse_any B s M wv hs ((HBV.out.cell (p := ⟨39, 0, none⟩) (World.block_lt_of_cell? _ _ HM.out)).trans HM.out) (HE.out.below HBV.out) (tab_below HTB.out HBV.out)
        go_wp2_with fail
        refine aP.mono ?_
        clear aP
        rintro e wp ⟨hbp, ⟨ts, lp, mp, Ap, cp, hps, hop, rfl⟩ | ⟨hps, rfl⟩⟩
        · have GI := parseF_iff.1 hps
          have HGI := Lib.hid GI.1
          have HBQ := Lib.hid ((HBV.out.trans (hbp.mono HBV.out.size)).alloc (HBV.out.trans (hbp.mono HBV.out.size)).size (.cells #[.slice Ap ts.length cp, .int .i64 (lp : Nat), .int .i64 (mp : Nat)] 25))
          have HXQ := Lib.hid (show (wp.alloc (.cells #[.slice Ap ts.length cp, .int .i64 (lp : Nat), .int .i64 (mp : Nat)] 25)).heap[wp.heap.size]? = some (.cells #[.slice Ap ts.length cp, .int .i64 (lp : Nat), .int .i64 (mp : Nat)] 25 (0, 0)) from heap_alloc_new wp _)
          have HOQ := Lib.hid (hop.step (Below.new wp (.cells #[.slice Ap ts.length cp, .int .i64 (lp : Nat), .int .i64 (mp : Nat)] 25)))
          go_upto_region 14 with fail
          generalize wp.alloc (.cells #[.slice Ap ts.length cp, .int .i64 (lp : Nat), .int .i64 (mp : Nat)] 25) = wq at *
          generalize wp.heap.size = gq at *
          have aT := ftext_any B Ap ts.length cp (tierAt ts) lp mp wq (HE.out.below HBQ.out) (tiers_own HOQ.out) (tab_below HTB.out HBQ.out)
          rw [show txtV B ts.length (tierAt ts) lp mp = .tuple #[.string ⟨(feeTxt ts.length (tierAt ts) lp mp).toArray⟩, .nilIface] by unfold txtV; rw [if_pos HGI.out]] at aT
          have hx : (⟨(feeTxt ts.length (tierAt ts) lp mp).toArray⟩ : ByteArray).toList = s.toList := by rw [bytes_toList, bytes_toList]; exact GI.2
          generalize (⟨(feeTxt ts.length (tierAt ts) lp mp).toArray⟩ : ByteArray) = x at *
          have qx : (x.toList == s.toList) = true := by rw [hx]; exact beq_self_eq_true _
          unfold feeV at aT
          obtain ⟨x0, x1, x2⟩ := box3 HXQ.out
          clear hx GI hbp hop hps
          go_wp2_with fail
          refine aT.mono ?_
          clear aT x0 x1 x2
          rintro e wr ⟨rfl, hbr⟩
          have HBR := Lib.hid (HBQ.out.trans (hbr.mono HBQ.out.size))
          have HXR := Lib.hid ((hbr.block _ (lt_of_block HXQ.out)).trans HXQ.out)
          have HOR := Lib.hid (HOQ.out.step hbr)
          have aC := check_any B Ap ts.length cp (tierAt ts) lp mp wr (HE.out.below HBR.out) (tiers_own HOR.out)
          rw [HGI.out, show chkV B true = .nilIface from rfl] at aC
          unfold feeV at aC
          obtain ⟨x0, x1, x2⟩ := box3 HXR.out
          clear hbr
          go_wp2_with fail
          refine aC.mono ?_
          clear aC
          rintro e wt ⟨rfl, hbt⟩
          have HBT := Lib.hid (HBR.out.trans (hbt.mono HBR.out.size))
          clear hbt
          go_wp2_with fail
          go_ret
          exact ⟨rfl, HBT.out⟩
        · have HBQ := Lib.hid ((HBV.out.trans (hbp.mono HBV.out.size)).alloc (HBV.out.trans (hbp.mono HBV.out.size)).size (.cells #[.slice none 0 0, .int .i64 0, .int .i64 0] 25))
          have HXQ := Lib.hid (show (wp.alloc (.cells #[.slice none 0 0, .int .i64 0, .int .i64 0] 25)).heap[wp.heap.size]? = some (.cells #[.slice none 0 0, .int .i64 0, .int .i64 0] 25 (0, 0)) from heap_alloc_new wp _)
          rw [show ev B 7 = .iface 292 (.pointer (some (B 0))) from rfl]
          go_upto_region 14 with fail
          generalize wp.alloc (.cells #[.slice none 0 0, .int .i64 0, .int .i64 0] 25) = wq at *
          generalize wp.heap.size = gq at *
          have aS := same_any none none 0 0 0 0 (fun _ => ⟨0, 0, 0⟩) (fun _ => ⟨0, 0, 0⟩) 0 0 0 0 wq (.inl rfl) (.inl rfl) (by decide)
          rw [show sameB 0 (fun _ => (⟨0, 0, 0⟩ : Tier)) 0 0 0 (fun _ => (⟨0, 0, 0⟩ : Tier)) 0 0 = true from rfl] at aS
          unfold feeV at aS
          obtain ⟨x0, x1, x2⟩ := box3 HXQ.out
          clear hbp hps
          go_wp2_with fail
          refine aS.mono ?_
          clear aS
          rintro e wr ⟨rfl, hbr⟩
          have HBR := Lib.hid (HBQ.out.trans (hbr.mono HBQ.out.size))
          clear hbr
          go_wp2_with fail
          go_ret
          exact ⟨rfl, HBR.out⟩
      | false =>
        have qe : (x.toList == y.toList) = false := beq_eq_false_iff_ne.2 fun e => by have := HTG2.out.1 e; rw [hS] at this; cases this
        rw [hS] at aS
        clear hS HTG2
        go_wp2_with fail
        refine aS.mono ?_
        clear aS x0 x1 x2 y0 y1 y2
        rintro e wv ⟨rfl, hbv⟩
        have HBV := Lib.hid (HX9.out.step hbv).below
        clear hbv
        go_upto_region 13 with fail
        have aP := parse_any B s M wv hs ((HBV.out.cell (p := ⟨39, 0, none⟩) (World.block_lt_of_cell? _ _ HM.out)).trans HM.out) (HE.out.below HBV.out) (tab_below HTB.out HBV.out)
        go_wp2_with fail
        refine aP.mono ?_
        clear aP
        rintro e wp ⟨hbp, ⟨ts, lp, mp, Ap, cp, hps, hop, rfl⟩ | ⟨hps, rfl⟩⟩
        · have GI := parseF_iff.1 hps
          have HGI := Lib.hid GI.1
          have HBQ := Lib.hid ((HBV.out.trans (hbp.mono HBV.out.size)).alloc (HBV.out.trans (hbp.mono HBV.out.size)).size (.cells #[.slice Ap ts.length cp, .int .i64 (lp : Nat), .int .i64 (mp : Nat)] 25))
          have HXQ := Lib.hid (show (wp.alloc (.cells #[.slice Ap ts.length cp, .int .i64 (lp : Nat), .int .i64 (mp : Nat)] 25)).heap[wp.heap.size]? = some (.cells #[.slice Ap ts.length cp, .int .i64 (lp : Nat), .int .i64 (mp : Nat)] 25 (0, 0)) from heap_alloc_new wp _)
          have HOQ := Lib.hid (hop.step (Below.new wp (.cells #[.slice Ap ts.length cp, .int .i64 (lp : Nat), .int .i64 (mp : Nat)] 25)))
          go_upto_region 14 with fail
          generalize wp.alloc (.cells #[.slice Ap ts.length cp, .int .i64 (lp : Nat), .int .i64 (mp : Nat)] 25) = wq at *
          generalize wp.heap.size = gq at *
          have aT := ftext_any B Ap ts.length cp (tierAt ts) lp mp wq (HE.out.below HBQ.out) (tiers_own HOQ.out) (tab_below HTB.out HBQ.out)
          rw [show txtV B ts.length (tierAt ts) lp mp = .tuple #[.string ⟨(feeTxt ts.length (tierAt ts) lp mp).toArray⟩, .nilIface] by unfold txtV; rw [if_pos HGI.out]] at aT
          have hx : (⟨(feeTxt ts.length (tierAt ts) lp mp).toArray⟩ : ByteArray).toList = s.toList := by rw [bytes_toList, bytes_toList]; exact GI.2
          generalize (⟨(feeTxt ts.length (tierAt ts) lp mp).toArray⟩ : ByteArray) = x at *
          have qx : (x.toList == s.toList) = true := by rw [hx]; exact beq_self_eq_true _
          unfold feeV at aT
          obtain ⟨x0, x1, x2⟩ := box3 HXQ.out
          clear hx GI hbp hop hps
          go_wp2_with fail
          refine aT.mono ?_
          clear aT x0 x1 x2
          rintro e wr ⟨rfl, hbr⟩
          have HBR := Lib.hid (HBQ.out.trans (hbr.mono HBQ.out.size))
          have HXR := Lib.hid ((hbr.block _ (lt_of_block HXQ.out)).trans HXQ.out)
          have HOR := Lib.hid (HOQ.out.step hbr)
          have aC := check_any B Ap ts.length cp (tierAt ts) lp mp wr (HE.out.below HBR.out) (tiers_own HOR.out)
          rw [HGI.out, show chkV B true = .nilIface from rfl] at aC
          unfold feeV at aC
          obtain ⟨x0, x1, x2⟩ := box3 HXR.out
          clear hbr
          go_wp2_with fail
          refine aC.mono ?_
          clear aC
          rintro e wt ⟨rfl, hbt⟩
          have HBT := Lib.hid (HBR.out.trans (hbt.mono HBR.out.size))
          clear hbt
          go_wp2_with fail
          go_ret
          exact ⟨rfl, HBT.out⟩
        · have HBQ := Lib.hid ((HBV.out.trans (hbp.mono HBV.out.size)).alloc (HBV.out.trans (hbp.mono HBV.out.size)).size (.cells #[.slice none 0 0, .int .i64 0, .int .i64 0] 25))
          have HXQ := Lib.hid (show (wp.alloc (.cells #[.slice none 0 0, .int .i64 0, .int .i64 0] 25)).heap[wp.heap.size]? = some (.cells #[.slice none 0 0, .int .i64 0, .int .i64 0] 25 (0, 0)) from heap_alloc_new wp _)
          rw [show ev B 7 = .iface 292 (.pointer (some (B 0))) from rfl]
          go_upto_region 14 with fail
          generalize wp.alloc (.cells #[.slice none 0 0, .int .i64 0, .int .i64 0] 25) = wq at *
          generalize wp.heap.size = gq at *
          have aS := same_any none none 0 0 0 0 (fun _ => ⟨0, 0, 0⟩) (fun _ => ⟨0, 0, 0⟩) 0 0 0 0 wq (.inl rfl) (.inl rfl) (by decide)
          rw [show sameB 0 (fun _ => (⟨0, 0, 0⟩ : Tier)) 0 0 0 (fun _ => (⟨0, 0, 0⟩ : Tier)) 0 0 = true from rfl] at aS
          unfold feeV at aS
          obtain ⟨x0, x1, x2⟩ := box3 HXQ.out
          clear hbp hps
          go_wp2_with fail
          refine aS.mono ?_
          clear aS
          rintro e wr ⟨rfl, hbr⟩
          have HBR := Lib.hid (HBQ.out.trans (hbr.mono HBQ.out.size))
          clear hbr
          go_wp2_with fail
          go_ret
          exact ⟨rfl, HBR.out⟩
end Go.Proofs.YtikkocdbaekjmaaGreatDoor
