/- remitref18.Text: walked (printed by gen_rtext.py). -/
import Derived.Test.YtikkocdbaekjmaaGreatDoorRefC
import Derived.Test.YtikkocdbaekjmaaGreatDoorHeldE
namespace Go.Proofs.YtikkocdbaekjmaaGreatDoor
open Go.RowKit
/-- What the document's Text answers. -/
def txtN (n : Nat) (t : Nat → Tier) (l m : Int) : Value :=
  if goodB n t l m = true then .tuple #[.string ⟨(feeTxt n t l m).toArray⟩, .int .i64 0] else .tuple #[.string ⟨#[]⟩, .int .i64 7]
theorem bytes_ext {S : ByteArray} {l : List UInt8} (h : S.data.toList = l) : S = ⟨l.toArray⟩ := by subst h; cases S; simp
set_option maxRecDepth 100000 in
set_option maxHeartbeats 4000000 in
theorem rtext_any (A : Option Addr) (n c : Nat) (t : Nat → Tier) (l m : Int) (w : World) (hT : Tiers w A n t) :
    Calls Tryz.prog 16 #[feeV A n c l m] w fun e w' => e = .returned (txtN n t l m) ∧ Below w.heap.size w w' := by
  have HT := Lib.hid hT
  have HX := Lib.hid (Boxed.new w A n c l m)
  have hTT : Tiers (w.alloc (.cells #[.slice A n c, .int .i64 l, .int .i64 m] 25)) A n t := hT.imp id fun ⟨b, o, e, hb, hc⟩ => ⟨b, o, e, Nat.lt_of_lt_of_le hb HX.out.below.size, fun i hi =>
    ⟨(HX.out.below.cell (p := ⟨b, o + i * 3, none⟩) hb).trans (hc i hi).1, (HX.out.below.cell (p := ⟨b, o + i * 3 + 1, none⟩) hb).trans (hc i hi).2.1, (HX.out.below.cell (p := ⟨b, o + i * 3 + 2, none⟩) hb).trans (hc i hi).2.2⟩⟩
  have a1 := rcheck_any A n c t l m _ hTT
  unfold feeV at a1 ⊢
  clear hT hTT
  go_enter Tryz.func16, Tryz.ntmps16
  go_wp2_with fail
  refine a1.mono ?_
  clear a1
  rintro e w2 ⟨rfl, hb2⟩
  have HX2 := Lib.hid (HX.out.step hb2)
  clear hb2 HX
  obtain ⟨x1, x2, x3⟩ := HX2.out.cells
  cases hG : goodB n t l m with
  | false =>
    have R := Lib.hid (show txtN n t l m = .tuple #[.string ⟨#[]⟩, .int .i64 7] by unfold txtN; rw [hG]; rfl)
    have e7 : chkN false = .int .i64 7 := rfl
    rw [e7]
    clear hG e7
    go_wp2
    go_ret2
    exact ⟨by rw [R.out]; rfl, HX2.out.below⟩
  | true =>
    have e7 : chkN true = .int .i64 0 := rfl
    rw [e7]
    have R := Lib.hid (show txtN n t l m = .tuple #[.string ⟨(feeTxt n t l m).toArray⟩, .int .i64 0] by unfold txtN; rw [if_pos hG])
    have GP := Lib.hid (goodP hG)
    clear e7 hG
    have n1 := GP.out.n1
    have n6 := GP.out.n6
    have HL := Lib.hid (tiers_len (t := t) (N := n) fun i hi => ⟨by have := GP.out.fr i hi; omega, by have := GP.out.fl i hi; omega, by have := GP.out.rt i hi; omega⟩)
    rcases HT.out with h0 | ⟨b, o, rfl, hb, hc⟩
    · omega
    have HC := Lib.hid (show ∀ i, i < n → w2.cell? ⟨b, o + i * 3, none⟩ = some (.int .i64 (t i).fr) ∧ w2.cell? ⟨b, o + i * 3 + 1, none⟩ = some (.int .i64 (t i).fl) ∧ w2.cell? ⟨b, o + i * 3 + 2, none⟩ = some (.int .i64 (t i).rt) from fun i hi =>
      ⟨(HX2.out.below.cell (p := ⟨b, o + i * 3, none⟩) hb).trans (hc i hi).1, (HX2.out.below.cell (p := ⟨b, o + i * 3 + 1, none⟩) hb).trans (hc i hi).2.1, (HX2.out.below.cell (p := ⟨b, o + i * 3 + 2, none⟩) hb).trans (hc i hi).2.2⟩)
    have hbl : b < w2.heap.size := Nat.lt_of_lt_of_le hb HX2.out.below.size
    have hlt := HX2.out.lt
    clear hc HT
    go_wp2_with fail
    go_loopw [16, 5] (fun vi vs wr => ∃ (k : Nat) (S : ByteArray), vi = .int .i64 k ∧ vs = .string S ∧ k ≤ n ∧ Hid (S.data.toList = tiersTxt t k) ∧ Hid (Below w2.heap.size w2 wr)) (fun vi _ _ => n - (intOf vi).toNat)
    case atStart => exact ⟨0, ⟨#[]⟩, rfl, rfl, Nat.zero_le _, Lib.hid rfl, Lib.hid (Below.refl _ _)⟩
    case round =>
      obtain ⟨k, S0, rfl, rfl, hk, hS0, hbw⟩ := hrel
      rcases Nat.lt_or_ge k n with h | h
      · have hkI : (k : Int) < n := by omega
        obtain ⟨c0, c1, c2⟩ := HC.out k h
        have c0 := (hbw.out.cell (p := ⟨b, o + k * 3, none⟩) hbl).trans c0
        have c1 := (hbw.out.cell (p := ⟨b, o + k * 3 + 1, none⟩) hbl).trans c1
        have c2 := (hbw.out.cell (p := ⟨b, o + k * 3 + 2, none⟩) hbl).trans c2
        have hfr := GP.out.fr k h
        have hfl := GP.out.fl k h
        have hrt := GP.out.rt k h
        have hlen := HL.out k (by omega)
        have hsz0 : S0.size ≤ 360 := by
          have h1 := congrArg List.length hS0.out
          have h3 : S0.data.toList.length = S0.size := Array.length_toList
          omega
        have HTT := Lib.hid (show tiersTxt t (k + 1) = tiersTxt t k ++ comma k ++ tierTxt (t k) from rfl)
        generalize hx : t k = xx at *
        have HXX := Lib.hid hx
        clear hx hlen
        obtain ⟨x, y, z⟩ := xx
        dsimp only at hfr hfl hrt c0 c1 c2
        have ax := fun W => digits_any x.toNat (by omega) W
        have ay := fun W => digits_any y.toNat (by omega) W
        have az := fun W => digits_any z.toNat (by omega) W
        rw [Int.toNat_of_nonneg hfr.1] at ax
        rw [Int.toNat_of_nonneg hfl.1] at ay
        rw [Int.toNat_of_nonneg hrt.1] at az
        have hX1 : (⟨(Lib.decDigits x.toNat).toArray⟩ : ByteArray).size ≤ 19 := by have := decDigits_len (u := x.toNat) (by omega); show (Lib.decDigits x.toNat).toArray.size ≤ 19; rw [List.size_toArray]; exact this
        have hY1 : (⟨(Lib.decDigits y.toNat).toArray⟩ : ByteArray).size ≤ 19 := by have := decDigits_len (u := y.toNat) (by omega); show (Lib.decDigits y.toNat).toArray.size ≤ 19; rw [List.size_toArray]; exact this
        have hZ1 : (⟨(Lib.decDigits z.toNat).toArray⟩ : ByteArray).size ≤ 19 := by have := decDigits_len (u := z.toNat) (by omega); show (Lib.decDigits z.toNat).toArray.size ≤ 19; rw [List.size_toArray]; exact this
        have HTX := Lib.hid (show tierTxt ⟨x, y, z⟩ = (⟨(Lib.decDigits x.toNat).toArray⟩ : ByteArray).data.toList ++ [58] ++ (⟨(Lib.decDigits y.toNat).toArray⟩ : ByteArray).data.toList ++ [43] ++ (⟨(Lib.decDigits z.toNat).toArray⟩ : ByteArray).data.toList from by simp [tierTxt, dg])
        generalize (⟨(Lib.decDigits x.toNat).toArray⟩ : ByteArray) = X at *
        generalize (⟨(Lib.decDigits y.toNat).toArray⟩ : ByteArray) = Y at *
        generalize (⟨(Lib.decDigits z.toNat).toArray⟩ : ByteArray) = Z at *
        have HAX := Lib.hid ax; have HAY := Lib.hid ay; have HAZ := Lib.hid az
        clear ax ay az hfr hfl hrt
        go_upto_if 22 with fail
        have HB1 := Lib.hid (hbw.out.alloc hbw.out.size (.cells #[.int .i64 x, .int .i64 y, .int .i64 z] 35))
        have hg : wr.heap.size < (wr.alloc (.cells #[.int .i64 x, .int .i64 y, .int .i64 z] 35)).heap.size := by simp
        have e0 : (wr.alloc (.cells #[.int .i64 x, .int .i64 y, .int .i64 z] 35)).cell? ⟨wr.heap.size, 0, none⟩ = some (.int .i64 x) := by simp
        have e1 : (wr.alloc (.cells #[.int .i64 x, .int .i64 y, .int .i64 z] 35)).cell? ⟨wr.heap.size, 1, none⟩ = some (.int .i64 y) := by simp
        have e2 : (wr.alloc (.cells #[.int .i64 x, .int .i64 y, .int .i64 z] 35)).cell? ⟨wr.heap.size, 2, none⟩ = some (.int .i64 z) := by simp
        clear c0 c1 c2
        generalize wr.alloc (.cells #[.int .i64 x, .int .i64 y, .int .i64 z] 35) = w1 at *
        generalize wr.heap.size = g at *
        generalize hdd : decide (0 < k) = dd at *
        have HDD := Lib.hid hdd
        clear hdd
        go_cut [5] from 21 to 24 (fun v wx => ∃ S : ByteArray, v = .string S ∧ S.size ≤ 361 ∧ Hid (S.data.toList = tiersTxt t k ++ comma k) ∧ wx = w1)
        case first =>
          cases dd with
          | false =>
            have HS := Lib.hid (show S0.data.toList = tiersTxt t k ++ comma k by rw [hS0.out]; unfold comma; rw [if_pos (by have := of_decide_eq_false HDD.out; omega), List.append_nil])
            go_wp2
            go_meet
            exact ⟨S0, rfl, by omega, HS, rfl⟩
          | true =>
            have HS := Lib.hid (show (S0 ++ ⟨#[44]⟩).data.toList = tiersTxt t k ++ comma k by
              unfold comma; rw [if_neg (by have := of_decide_eq_true HDD.out; omega)]
              simp [hS0.out])
            have hz : (S0 ++ (⟨#[44]⟩ : ByteArray)).size ≤ 361 := by simp [ByteArray.size_append]; show S0.size + 1 ≤ 361; omega
            go_wp2
            go_meet
            exact ⟨_, rfl, hz, HS, rfl⟩
        obtain ⟨S, rfl, hsz, hS, hwc⟩ := hcut
        obtain rfl : w1 = _ := hwc.symm
        clear hS0 hsz0
        have s58 : (⟨#[58]⟩ : ByteArray).size = 1 := rfl
        have s43 : (⟨#[43]⟩ : ByteArray).size = 1 := rfl
        have ax := HAX.out; have ay := HAY.out; have az := HAZ.out
        go_upto_region 10 with fail
        refine wp_region_E (S := fun W => Below w1.heap.size w1 W) (late := []) (by kernel_rfl) ?_
        have HS : Below w1.heap.size w1 w1.drew := (Below.refl _ _).drew
        refine wpAnyE_take (i := 0) (v := .string S) rfl (by kernel_rfl) (by kernel_rfl) (by kernel_rfl) (by kernel_rfl) (by kernel_rfl) (fun _ _ _ h => h) (Or.inl ⟨by kernel_rfl, ?_⟩) HS ?_
        · intro W hSw; go_simp
        try simp only [Act.put, List.getElem_toArray, List.getElem_cons_succ, List.getElem_cons_zero, List.setIfInBounds_toArray, List.set_cons_succ, List.set_cons_zero]
        refine wpAnyE_take (i := 1) (v := .pointer (some ⟨g, 0, none⟩)) rfl (by kernel_rfl) (by kernel_rfl) (by kernel_rfl) (by kernel_rfl) (by kernel_rfl) (fun _ _ _ h => h) (Or.inl ⟨by kernel_rfl, ?_⟩) HS ?_
        · intro W hSw; go_simp
        try simp only [Act.put, List.getElem_toArray, List.getElem_cons_succ, List.getElem_cons_zero, List.setIfInBounds_toArray, List.set_cons_succ, List.set_cons_zero]
        refine wpAnyE_take (i := 2) (v := .int .i64 x) rfl (by kernel_rfl) (by kernel_rfl) (by kernel_rfl) (by kernel_rfl) (by kernel_rfl) (fun _ _ _ h => h) (Or.inl ⟨by kernel_rfl, ?_⟩) HS ?_
        · intro W hSw; have q := (hSw.cell (p := ⟨g, 0, none⟩) hg).trans e0; go_simp
        try simp only [Act.put, List.getElem_toArray, List.getElem_cons_succ, List.getElem_cons_zero, List.setIfInBounds_toArray, List.set_cons_succ, List.set_cons_zero]
        refine wpAnyE_take (i := 5) (v := .pointer (some ⟨g, 1, none⟩)) rfl (by kernel_rfl) (by kernel_rfl) (by kernel_rfl) (by kernel_rfl) (by kernel_rfl) (fun _ _ _ h => h) (Or.inl ⟨by kernel_rfl, ?_⟩) HS ?_
        · intro W hSw; go_simp
        try simp only [Act.put, List.getElem_toArray, List.getElem_cons_succ, List.getElem_cons_zero, List.setIfInBounds_toArray, List.set_cons_succ, List.set_cons_zero]
        refine wpAnyE_take (i := 6) (v := .int .i64 y) rfl (by kernel_rfl) (by kernel_rfl) (by kernel_rfl) (by kernel_rfl) (by kernel_rfl) (fun _ _ _ h => h) (Or.inl ⟨by kernel_rfl, ?_⟩) HS ?_
        · intro W hSw; have q := (hSw.cell (p := ⟨g, 1, none⟩) hg).trans e1; go_simp
        try simp only [Act.put, List.getElem_toArray, List.getElem_cons_succ, List.getElem_cons_zero, List.setIfInBounds_toArray, List.set_cons_succ, List.set_cons_zero]
        refine wpAnyE_take (i := 10) (v := .pointer (some ⟨g, 2, none⟩)) rfl (by kernel_rfl) (by kernel_rfl) (by kernel_rfl) (by kernel_rfl) (by kernel_rfl) (fun _ _ _ h => h) (Or.inl ⟨by kernel_rfl, ?_⟩) HS ?_
        · intro W hSw; go_simp
        try simp only [Act.put, List.getElem_toArray, List.getElem_cons_succ, List.getElem_cons_zero, List.setIfInBounds_toArray, List.set_cons_succ, List.set_cons_zero]
        refine wpAnyE_take (i := 11) (v := .int .i64 z) rfl (by kernel_rfl) (by kernel_rfl) (by kernel_rfl) (by kernel_rfl) (by kernel_rfl) (fun _ _ _ h => h) (Or.inl ⟨by kernel_rfl, ?_⟩) HS ?_
        · intro W hSw; have q := (hSw.cell (p := ⟨g, 2, none⟩) hg).trans e2; go_simp
        try simp only [Act.put, List.getElem_toArray, List.getElem_cons_succ, List.getElem_cons_zero, List.setIfInBounds_toArray, List.set_cons_succ, List.set_cons_zero]
        refine wpAnyE_one (i := 3) (by kernel_rfl) rfl (fun K hK => ?_)
        go_simp
        go_at_call 26
        refine (ax _).mono ?_
        rintro e w2 ⟨rfl, hw2⟩
        try go_simp
        have hsw2 := Below.trans HS (hw2.mono (HS).size)
        refine hK.out _ _ (.inr hsw2) ?_
        clear hK K
        try simp only [Act.put, List.getElem_toArray, List.getElem_cons_succ, List.getElem_cons_zero, List.setIfInBounds_toArray, List.set_cons_succ, List.set_cons_zero]
        refine wpAnyE_take (i := 4) (v := .string (X ++ ⟨#[58]⟩)) rfl (by kernel_rfl) (by kernel_rfl) (by kernel_rfl) (by kernel_rfl) (by kernel_rfl) (fun _ _ _ h => h) (Or.inl ⟨by kernel_rfl, ?_⟩) hsw2 ?_
        · intro W hSw; go_simp <;> omega
        try simp only [Act.put, List.getElem_toArray, List.getElem_cons_succ, List.getElem_cons_zero, List.setIfInBounds_toArray, List.set_cons_succ, List.set_cons_zero]
        refine wpAnyE_one (i := 7) (by kernel_rfl) rfl (fun K hK => ?_)
        go_simp
        go_at_call 26
        refine (ay _).mono ?_
        rintro e w3 ⟨rfl, hw3⟩
        try go_simp
        have hsw3 := Below.trans hsw2 (hw3.mono (hsw2).size)
        refine hK.out _ _ (.inr hsw3) ?_
        clear hK K
        try simp only [Act.put, List.getElem_toArray, List.getElem_cons_succ, List.getElem_cons_zero, List.setIfInBounds_toArray, List.set_cons_succ, List.set_cons_zero]
        refine wpAnyE_take (i := 8) (v := .string (X ++ ⟨#[58]⟩ ++ Y)) rfl (by kernel_rfl) (by kernel_rfl) (by kernel_rfl) (by kernel_rfl) (by kernel_rfl) (fun _ _ _ h => h) (Or.inl ⟨by kernel_rfl, ?_⟩) hsw3 ?_
        · intro W hSw; go_simp <;> omega
        try simp only [Act.put, List.getElem_toArray, List.getElem_cons_succ, List.getElem_cons_zero, List.setIfInBounds_toArray, List.set_cons_succ, List.set_cons_zero]
        refine wpAnyE_take (i := 9) (v := .string (X ++ ⟨#[58]⟩ ++ Y ++ ⟨#[43]⟩)) rfl (by kernel_rfl) (by kernel_rfl) (by kernel_rfl) (by kernel_rfl) (by kernel_rfl) (fun _ _ _ h => h) (Or.inl ⟨by kernel_rfl, ?_⟩) hsw3 ?_
        · intro W hSw; go_simp <;> omega
        try simp only [Act.put, List.getElem_toArray, List.getElem_cons_succ, List.getElem_cons_zero, List.setIfInBounds_toArray, List.set_cons_succ, List.set_cons_zero]
        refine wpAnyE_one (i := 12) (by kernel_rfl) rfl (fun K hK => ?_)
        go_simp
        go_at_call 26
        refine (az _).mono ?_
        rintro e w4 ⟨rfl, hw4⟩
        try go_simp
        have hsw4 := Below.trans hsw3 (hw4.mono (hsw3).size)
        refine hK.out _ _ (.inr hsw4) ?_
        clear hK K
        try simp only [Act.put, List.getElem_toArray, List.getElem_cons_succ, List.getElem_cons_zero, List.setIfInBounds_toArray, List.set_cons_succ, List.set_cons_zero]
        refine wpAnyE_take (i := 13) (v := .string (X ++ ⟨#[58]⟩ ++ Y ++ ⟨#[43]⟩ ++ Z)) rfl (by kernel_rfl) (by kernel_rfl) (by kernel_rfl) (by kernel_rfl) (by kernel_rfl) (fun _ _ _ h => h) (Or.inl ⟨by kernel_rfl, ?_⟩) hsw4 ?_
        · intro W hSw; go_simp <;> omega
        try simp only [Act.put, List.getElem_toArray, List.getElem_cons_succ, List.getElem_cons_zero, List.setIfInBounds_toArray, List.set_cons_succ, List.set_cons_zero]
        refine wpAnyE_take (i := 14) (v := .string (S ++ (X ++ ⟨#[58]⟩ ++ Y ++ ⟨#[43]⟩ ++ Z))) rfl (by kernel_rfl) (by kernel_rfl) (by kernel_rfl) (by kernel_rfl) (by kernel_rfl) (fun _ _ _ h => h) (Or.inl ⟨by kernel_rfl, ?_⟩) hsw4 ?_
        · intro W hSw; go_simp <;> omega
        try simp only [Act.put, List.getElem_toArray, List.getElem_cons_succ, List.getElem_cons_zero, List.setIfInBounds_toArray, List.set_cons_succ, List.set_cons_zero]
        refine wpAnyE_take (i := 15) (v := .string (S ++ (X ++ ⟨#[58]⟩ ++ Y ++ ⟨#[43]⟩ ++ Z))) rfl (by kernel_rfl) (by kernel_rfl) (by kernel_rfl) (by kernel_rfl) (by kernel_rfl) (fun _ _ _ h => h) (Or.inl ⟨by kernel_rfl, ?_⟩) hsw4 ?_
        · intro W hSw; go_simp
        try simp only [Act.put, List.getElem_toArray, List.getElem_cons_succ, List.getElem_cons_zero, List.setIfInBounds_toArray, List.set_cons_succ, List.set_cons_zero]
        refine wpAnyE_done (by kernel_rfl) ?_ _
        have HFIN := Lib.hid (show (S ++ (X ++ ⟨#[58]⟩ ++ Y ++ ⟨#[43]⟩ ++ Z)).data.toList = tiersTxt t (k + 1) by
          rw [HTT.out, HTX.out]; simp [hS.out])
        have HBF := Lib.hid (HB1.out.trans (hsw4.mono HB1.out.size))
        generalize S ++ (X ++ ⟨#[58]⟩ ++ Y ++ ⟨#[43]⟩ ++ Z) = F at *
        go_wp2
        refine ⟨⟨k + 1, F, by go_num, rfl, h, HFIN, HBF⟩, by simp [intOf]; omega⟩
      · obtain rfl : n = k := by omega
        have hsz0 : S0.size ≤ 360 := by
          have hlen := HL.out n (Nat.le_refl _)
          have h1 := congrArg List.length hS0.out
          have h3 : S0.data.toList.length = S0.size := Array.length_toList
          omega
        have hl := GP.out.l0
        have hm := GP.out.m0
        have al := fun W => digits_any l.toNat (by omega) W
        have am := fun W => digits_any m.toNat (by omega) W
        rw [Int.toNat_of_nonneg hl.1] at al
        rw [Int.toNat_of_nonneg hm.1] at am
        have hL1 : (⟨(Lib.decDigits l.toNat).toArray⟩ : ByteArray).size ≤ 19 := by have := decDigits_len (u := l.toNat) (by omega); show (Lib.decDigits l.toNat).toArray.size ≤ 19; rw [List.size_toArray]; exact this
        have hM1 : (⟨(Lib.decDigits m.toNat).toArray⟩ : ByteArray).size ≤ 19 := by have := decDigits_len (u := m.toNat) (by omega); show (Lib.decDigits m.toNat).toArray.size ≤ 19; rw [List.size_toArray]; exact this
        have HDL := Lib.hid (show dg l = (⟨(Lib.decDigits l.toNat).toArray⟩ : ByteArray).data.toList from by simp [dg])
        have HDM := Lib.hid (show dg m = (⟨(Lib.decDigits m.toNat).toArray⟩ : ByteArray).data.toList from by simp [dg])
        generalize (⟨(Lib.decDigits l.toNat).toArray⟩ : ByteArray) = DL at *
        generalize (⟨(Lib.decDigits m.toNat).toArray⟩ : ByteArray) = DM at *
        have HAL := Lib.hid al; have HAM := Lib.hid am
        clear al am hl hm
        have HXR := Lib.hid (HX2.out.step hbw.out)
        obtain ⟨x1, x2, x3⟩ := HXR.out.cells
        go_upto_if 43 with fail
        generalize hdd : (l != 0) = dd at *
        have HDD := Lib.hid hdd
        clear hdd
        go_cut [5] from 41 to 49 (fun v wx => ∃ S : ByteArray, v = .string S ∧ S.size ≤ 400 ∧ Hid (S.data.toList = tiersTxt t n ++ minTxt l) ∧ Hid (Boxed w wx (some ⟨b, o, none⟩) n c l m))
        case first =>
          cases dd with
          | false =>
            have HS := Lib.hid (show S0.data.toList = tiersTxt t n ++ minTxt l by rw [hS0.out]; unfold minTxt; rw [if_pos (by simpa using HDD.out), List.append_nil])
            go_wp2
            go_meet
            exact ⟨S0, rfl, by omega, HS, HXR⟩
          | true =>
            have HS := Lib.hid (show (S0 ++ (⟨#[32, 109, 105, 110, 32]⟩ ++ DL)).data.toList = tiersTxt t n ++ minTxt l by
              unfold minTxt; rw [if_neg (by simpa using HDD.out)]
              simp [hS0.out, HDL.out])
            have h5 : (⟨#[32, 109, 105, 110, 32]⟩ : ByteArray).size = 5 := rfl
            have hz : (S0 ++ ((⟨#[32, 109, 105, 110, 32]⟩ : ByteArray) ++ DL)).size ≤ 400 := by simp only [ByteArray.size_append]; omega
            have al := HAL.out
            go_wp2_with (go_at_call 26; refine (al _).mono ?_; rintro e w5 ⟨rfl, hb5⟩)
            go_meet
            exact ⟨_, rfl, hz, HS, Lib.hid (HXR.out.step hb5)⟩
        obtain ⟨S1, rfl, hsz1, hS1, HXS⟩ := hcut
        clear hS0 hsz0 HXR x1 x2 x3
        obtain ⟨x1, x2, x3⟩ := HXS.out.cells
        go_upto_if 52 with fail
        generalize hdd : (m != 0) = dd at *
        have HDD := Lib.hid hdd
        clear hdd
        cases dd with
        | false =>
          have HS := Lib.hid (show feeTxt n t l m = S1.data.toList by rw [hS1.out]; unfold feeTxt maxTxt; rw [if_pos (by simpa using HDD.out), List.append_nil])
          go_wp2
          go_ret2
          exact ⟨by rw [R.out, HS.out, ← bytes_ext rfl]; rfl, HXS.out.below⟩
        | true =>
          have HS := Lib.hid (show feeTxt n t l m = (S1 ++ (⟨#[32, 109, 97, 120, 32]⟩ ++ DM)).data.toList by
            unfold feeTxt maxTxt; rw [if_neg (by simpa using HDD.out)]
            simp [hS1.out, HDM.out])
          have h5 : (⟨#[32, 109, 97, 120, 32]⟩ : ByteArray).size = 5 := rfl
          have am := HAM.out
          go_wp2_with (go_at_call 26; refine (am _).mono ?_; rintro e w5 ⟨rfl, hb5⟩)
          go_ret2
          exact ⟨by rw [R.out, HS.out, ← bytes_ext rfl]; rfl, (HXS.out.step hb5).below⟩
end Go.Proofs.YtikkocdbaekjmaaGreatDoor
