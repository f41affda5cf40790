/- audit.Replay: walked. -/
import Derived.Test.YtodekiimkbejnaaGreatDoorRepl
namespace Go.Proofs.YtodekiimkbejnaaGreatDoor
open Go.RowKit Go.WideMaps Go.Maps

set_option maxRecDepth 100000 in
set_option maxHeartbeats 4000000 in
theorem replay_any (Bf : Nat → Addr) (A : Option Addr) (n c : Nat) (ps : Nat → PostV) (w : World) (hE : Env w Bf) (hP : PostsAt w A n ps) (hn : n ≤ 274877906944) :
    Calls Tryz.prog 6 #[.slice A n c] w (RepPost Bf (postsR ps n) w) := by
  have HE := Lib.hid (fun w' (hb : Below w.heap.size w w') => hE.below hb)
  have HP := Lib.hid (fun w' (hb : Below w.heap.size w w') => hP.below hb)
  have HR := Lib.hid (fun k (hk : k ≤ n) (h : (postsR ps k).1 ≠ 0) => postsR_stays h hk)
  have HS := Lib.hid (show ∀ r, postsR ps n = r → postsR ps n = r from fun _ h => h)
  generalize hrr : postsR ps n = rr at HR HS ⊢
  have HRR := Lib.hid hrr
  clear hE hP hrr
  have hmm := @run_makeMap Tryz.prog
  go_enter Tryz.func6, Tryz.ntmps6
  go_wp2_with fail
  have HR0 := Lib.hid (show ∀ b, b = w.heap.size → Rp b w.heap.size w (w.alloc (.map #[] 0)) 0 (.map []) from fun b e => e ▸ rp_start w)
  obtain ⟨bm, hbm⟩ : ∃ bm, bm = w.heap.size := ⟨_, rfl⟩
  have HBM := Lib.hid hbm
  have HRZ := Lib.hid (show postsR ps 0 = (0, .map []) from rfl)
  rw [← hbm]
  generalize w.alloc (.map #[] 0) = w0 at *
  clear hbm
  go_loopw [16, 6, 8, 9] (fun vi _ _ _ wr => ∃ (k q : Nat) (D : DataW Unit), vi = .int .i64 k ∧ k ≤ n ∧ q ≤ 8 * k ∧ Hid (Rp bm w.heap.size w wr q D ∧ postsR ps k = (0, D))) (fun vi _ _ _ _ => n - (intOf vi).toNat)
  case atStart => exact ⟨0, 0, _, rfl, Nat.zero_le _, Nat.zero_le _, Lib.hid ⟨HR0.out _ HBM.out, HRZ.out⟩⟩
  case round =>
    obtain ⟨k, q, D, rfl, hk, hq8, hh⟩ := hrel
    have hrp := hh.out.1
    have hw := hrp.bel
    have hsz := hw.size
    by_cases h : k < n
    · obtain ⟨g, o, rfl, hg, hc⟩ := HP.out _ hw (by omega)
      obtain ⟨⟨c0, c1, c2, c3⟩, hsd, hlg, hla⟩ := hc k h
      have hnb := Below.new wr (.cells #[.string (ps k).id, .int .i64 (ps k).tick, .string (ps k).note, .slice (ps k).A (ps k).n (ps k).c] 35)
      have hw2 := hw.trans (hnb.mono hsz)
      have hrp2 := hrp.below hnb
      have hbx := heap_alloc_new wr (.cells #[.string (ps k).id, .int .i64 (ps k).tick, .string (ps k).note, .slice (ps k).A (ps k).n (ps k).c] 35)
      have a1 := check_raw Bf (ps k).id (ps k).tick (ps k).note (ps k).A (ps k).n (ps k).c (ps k).lg _ (HE.out _ hw2) (hlg.below hla hnb) (fun h a e => Nat.lt_of_lt_of_le (hla h a e) hnb.size) hsd.1 hsd.2.1 hsd.2.2
      have HK := Lib.hid (show postsR ps (k + 1) = if (postsR ps k).1 = 0 then (if pOk (ps k) then (match legsR (postsR ps k).2 (ps k).lg (ps k).n with | some E => (0, E) | none => (2, .map [])) else (1, .map [])) else postsR ps k from rfl)
      have HW2 := Lib.hid hw2; have HRP2 := Lib.hid hrp2; have HPK := Lib.hid hh.out.2
      have HLG := Lib.hid (fun w' (hb : Below wr.heap.size wr w') => hlg.below hla hb)
      have HNB := Lib.hid hnb; have HBX := Lib.hid hbx
      have HLE := Lib.hid (show wr.heap.size < (wr.alloc (.cells #[.string (ps k).id, .int .i64 (ps k).tick, .string (ps k).note, .slice (ps k).A (ps k).n (ps k).c] 35)).heap.size by simp)
      clear hh hrp hw hc hnb hw2 hrp2 hbx hlg hla hsd
      cases hq : pOk (ps k) with
      | false =>
        have hq' : pOkB (ps k).id (ps k).tick (ps k).note (ps k).n (ps k).lg = false := hq
        rw [hq'] at a1
        have HF := Lib.hid (show rr = (1, .map []) by
          have e : postsR ps (k + 1) = (1, .map []) := by rw [HK.out, HPK.out, hq]; rfl
          rw [HR.out (k + 1) (by omega) (by rw [e]; decide), e])
        clear hq hq' HK
        go_wp2_with fail
        refine a1.mono ?_
        rintro e w2 ⟨⟨v, rfl, hv⟩, hb2⟩
        obtain ⟨p, rfl⟩ : ∃ p, v = .iface 135 (.pointer (some p)) := by
          rcases hv with ⟨h1, _⟩ | ⟨_, h2⟩
          · cases h1
          · exact h2
        have hw3 := HW2.out.trans (hb2.mono HW2.out.size)
        have cz := (HE.out _ hw3).cell 0 (by decide)
        have HW3 := Lib.hid hw3
        clear hv hb2 hw3 a1
        go_wp2
        go_quiet (fail)
        go_wp2
        go_ret2
        exact ⟨below_drewN HW3.out _, .inr (.inl ⟨by rw [HF.out], rfl⟩)⟩
      | true =>
        have hq' : pOkB (ps k).id (ps k).tick (ps k).note (ps k).n (ps k).lg = true := hq
        rw [hq'] at a1
        have hm8 : (ps k).n ≤ 8 := by
          unfold pOkB at hq'
          simp only [Bool.and_eq_true] at hq'
          have h2 := hq'.1.2
          unfold nOk at h2
          simp only [Bool.and_eq_true, Bool.not_eq_true', decide_eq_false_iff_not] at h2
          omega
        have HFS := Lib.hid (show ∀ E, legsR D (ps k).lg (ps k).n = some E → postsR ps (k + 1) = (0, E) from fun E e => by rw [HK.out, HPK.out, hq]; simp only [e]; rfl)
        have HFN := Lib.hid (show legsR D (ps k).lg (ps k).n = none → rr = (2, .map []) from fun e => by
          have e2 : postsR ps (k + 1) = (2, .map []) := by rw [HK.out, HPK.out, hq]; simp only [e]; rfl
          rw [HR.out (k + 1) (by omega) (by rw [e2]; decide), e2])
        clear hq hq' HK
        go_wp2_with fail
        refine a1.mono ?_
        rintro e w2 ⟨⟨v, rfl, hv⟩, hb2⟩
        obtain rfl : v = .nilIface := by
          rcases hv with ⟨_, h1⟩ | ⟨h1, _⟩
          · exact h1
          · cases h1
        have hrp3 := HRP2.out.below hb2
        have hbx3 := (hb2.block wr.heap.size HLE.out).trans HBX.out
        have HBW := Lib.hid (HNB.out.trans (hb2.mono HNB.out.size))
        have HLT := Lib.hid (show wr.heap.size < w2.heap.size from Nat.lt_of_lt_of_le HLE.out hb2.size)
        clear HRP2 HBX hv hb2 a1
        have f3 : w2.cell? ⟨wr.heap.size, 3, none⟩ = some (.slice (ps k).A (ps k).n (ps k).c) := by unfold World.cell?; rw [hbx3]; rfl
        have HR3 := Lib.hid hrp3
        clear hbx3 hrp3
        go_wp2_with fail
        obtain ⟨w1, rfl⟩ : ∃ w1, w1 = wr := ⟨_, rfl⟩
        go_loopw [27, 8, 9] (fun vi _ _ wx => ∃ (j : Nat) (E : DataW Unit), vi = .int .i64 j ∧ j ≤ (ps k).n ∧ Hid (Rp bm w.heap.size w wx (q + j) E ∧ legsR D (ps k).lg j = some E)) (fun vi _ _ _ => (ps k).n - (intOf vi).toNat)
        case atStart => exact ⟨0, D, rfl, Nat.zero_le _, Lib.hid ⟨HR3.out, rfl⟩⟩
        case round =>
          obtain ⟨j, E, rfl, hj, hy⟩ := hrel
          by_cases h2 : j < (ps k).n
          · have hw := hy.out.1.bel
            have hrp := hy.out.1
            have hsz2 := hw.size
            obtain ⟨g', o', eg, hg', hc0⟩ := HP.out _ hw (by omega)
            obtain ⟨g2, o2, eA, hg2, hc⟩ := (hc0 k h).2.2.1 (by omega)
            clear hc0 eg hg'
            obtain ⟨d0, d1, hok⟩ := hc j h2
            have hlow := hrp.low
            have hnb := Below.new wr (.cells #[.string ((ps k).lg j).a, .int .i64 ((ps k).lg j).x] 37)
            have hbx := heap_alloc_new wr (.cells #[.string ((ps k).lg j).a, .int .i64 ((ps k).lg j).x] 37)
            have hrp2 := hrp.below hnb
            have hmx := hrp2.map
            have hkey := key_kl ((ps k).lg j).a hok.1
            have c1z := (HE.out _ hrp2.bel).cell 1 (by decide)
            have HW2 := Lib.hid hrp2.bel
            have HSD := Lib.hid (show legsR D (ps k).lg (j + 1) = legR E ((ps k).lg j) by show (legsR D (ps k).lg j).bind _ = _; rw [hy.out.2]; rfl)
            have HSN := Lib.hid (fun e : legsR D (ps k).lg (j + 1) = none => HFN.out (legsR_none e (by omega)))
            have HRP2 := Lib.hid hrp2
            have hbm3 : bm < wr.heap.size := hlow.2
            rw [eA]
            cases e1 : decide ((4611686018427387904 : Int) < wrap64 (numAt E (kl ((ps k).lg j).a) + ((ps k).lg j).x)) with
            | true =>
              have HF := Lib.hid (HSN.out (by rw [HSD.out]; unfold legR; simp only [e1]; rfl))
              clear hc hrp hw hnb hrp2 hlow hy hbx HRP2
              go_wp2_with (first
                | (at_lookup; refine wpList_lookup_own_int _ rfl _ _ 39 rfl 9 2 .i64 law Tryz.underlying39 Tryz.underlying2 (zero2 _) bm _ _ rfl hmx _ _ rfl hkey ?_; intro cc hat hwc; obtain rfl := numAt_of hat; clear hat hwc)
                | go_in)
              go_quiet (fail)
              go_wp2
              go_ret2
              exact ⟨below_drewN HW2.out _, .inr (.inr ⟨by rw [HF.out], rfl⟩)⟩
            | false =>
              cases e2 : decide (wrap64 (numAt E (kl ((ps k).lg j).a) + ((ps k).lg j).x) < -4611686018427387904) with
              | true =>
                have HF := Lib.hid (HSN.out (by rw [HSD.out]; unfold legR; simp only [e1, e2]; rfl))
                clear hc hrp hw hnb hrp2 hlow hy hbx HRP2
                go_wp2_with (first
                  | (at_lookup; refine wpList_lookup_own_int _ rfl _ _ 39 rfl 9 2 .i64 law Tryz.underlying39 Tryz.underlying2 (zero2 _) bm _ _ rfl hmx _ _ rfl hkey ?_; intro cc hat hwc; obtain rfl := numAt_of hat; clear hat hwc)
                  | go_in)
                go_quiet (fail)
                go_wp2
                go_ret2
                exact ⟨below_drewN HW2.out _, .inr (.inr ⟨by rw [HF.out], rfl⟩)⟩
              | false =>
                have HF := Lib.hid (show legsR D (ps k).lg (j + 1) = some _ by rw [HSD.out]; unfold legR; simp only [e1, e2]; rfl)
                have HRP3 := Lib.hid (fun w' hm hg => hrp2.put (w' := w') (E := E.put (kl ((ps k).lg j).a) (.lit (.int .i64 (wrap64 (numAt E (kl ((ps k).lg j).a) + ((ps k).lg j).x))))) hm hg)
                have q0 : (wr.alloc (.cells #[.string ((ps k).lg j).a, .int .i64 ((ps k).lg j).x] 37)).cell? ⟨wr.heap.size, 0, none⟩ = some (.string ((ps k).lg j).a) := by unfold World.cell?; rw [hbx]; rfl
                have b1 := of_decide_eq_false e1
                have b2 := of_decide_eq_false e2
                clear hc hrp hw hnb hrp2 hlow hy hbx
                go_wp2_with (first
                  | (at_lookup; refine wpList_lookup_own_int _ rfl _ _ 39 rfl 9 2 .i64 law Tryz.underlying39 Tryz.underlying2 (zero2 _) bm _ _ rfl hmx _ _ rfl hkey ?_; intro cc hat hwc; obtain rfl := numAt_of hat; clear hat hwc)
                  | (at_mapUpdate; refine wpList_mapUpdate_own _ rfl _ _ _ 39 rfl 9 2 law Tryz.underlying39 _ bm _ _ rfl hmx (by unfold maxLen; omega) _ _ _ rfl rfl hkey _ [] (plainElem_int Tryz.underlying2 (wrap64_wf _)) ?_; intro w3 hown3 hgrow3)
                  | go_in)
                exact ⟨⟨j + 1, _, by go_num, by omega, Lib.hid ⟨HRP3.out w3 hown3 hgrow3, HF.out⟩⟩, by simp [intOf]; omega⟩
          · have ej : j = (ps k).n := by omega
            subst ej
            have HFI := Lib.hid (HFS.out E hy.out.2)
            have HRI := Lib.hid hy.out.1
            clear hy
            go_wp2_with fail
            go_roundw
            case rel => exact ⟨k + 1, q + (ps k).n, E, by go_num, by omega, by omega, Lib.hid ⟨HRI.out, HFI.out⟩⟩
            case measure => simp [intOf]; omega
    · obtain rfl : k = n := by omega
      have hrp := hh.out.1
      have HRD := Lib.hid (show rr = (0, D) from HRR.out.symm.trans hh.out.2)
      have hrpW := hrp.below (Below.new wr (.cells #[] 37))
      have hq := Nat.le_trans (World.ownsMap.size_le hrp.map) (Nat.le_refl q)
      have a2 := keys_any (some bm) (wr.alloc (.cells #[] 37))
      have a3 := sorted_any bm q D _ (wr.alloc (.cells #[] 37)) hrpW.map (by unfold maxLen; omega) (by omega)
      rw [show (wr.alloc (.cells #[] 37)).heap.size = wr.heap.size + 1 by simp] at a3
      have HRPX := Lib.hid hrp
      have HKL := Lib.hid (show (sortedKeys D).length ≤ 2199023255552 by have := strKeys_size D; rw [sortedKeys_length]; omega)
      have hlowX := Lib.hid hrp.low
      clear hh hrp hw hrpW hq h hk hsz
      go_wp2_with fail
      refine a2.mono ?_
      clear a2
      rintro e w' ⟨rfl, rfl⟩
      go_wp2_with fail
      refine a3.mono ?_
      clear a3
      rintro e w' ⟨v, ss, rfl, hS, hrow, hnil, hb⟩
      have hKe := sorted_keys_of hS
      have hsl : ss.length = (sortedKeys D).length := by rw [← hKe]; exact (List.length_mergeSort _).symm
      rw [hKe, hsl] at hrow
      clear hnil hKe hsl hS
      obtain ⟨Ak, ck, rfl, hkeys⟩ := keys_form hrow
      have HLO := Lib.hid (lo_start HRPX.out hb hkeys)
      obtain ⟨N, hN⟩ : ∃ N, N = wr.heap.size := ⟨_, rfl⟩
      obtain ⟨M, hM⟩ : ∃ M, M = w'.heap.size := ⟨_, rfl⟩
      rw [← hN, ← hM] at HLO
      clear hkeys hb hrow
      have HKK := Lib.hid (fun i (wx : World) (hm : wx.ownsMap Tryz.prog 9 (plainElem (H := Unit) Tryz.prog 2) bm q D) => sortedKeys_key hm i)
      have HPO := Lib.hid (show ∀ wx vo j, Lo bm N M q D (sortedKeys D) Ak w wx vo j → j = (sortedKeys D).length → RepPost Bf rr w (.returned (.tuple #[vo, .nilIface])) wx from fun wx vo j hl e => by
        have ho := hl.own
        rw [e, List.take_length] at ho
        exact ⟨hl.bel, .inl ⟨by rw [HRD.out], vo, rfl, by rw [HRD.out]; exact ownsRow_mono ho (by have := hl.low; omega)⟩⟩)
      generalize sortedKeys D = K at *
      rw [← hN]
      clear hN hM
      go_wp2_with fail
      go_loopw [56, 10, 12] (fun vi vo _ wx => ∃ j : Nat, vi = .int .i64 j ∧ j ≤ K.length ∧ Hid (Lo bm N M q D K Ak w wx vo j)) (fun vi _ _ _ => K.length - (intOf vi).toNat)
      case atStart => exact ⟨0, rfl, Nat.zero_le _, HLO⟩
      case round =>
        obtain ⟨j, rfl, hj, hl⟩ := hrel
        by_cases h2 : j < K.length
        · obtain ⟨gk, rfl, hNk, hkM, hcell⟩ := hl.out.keys (by omega)
          have k1 := hcell j h2
          have hkey := HKK.out j wr hl.out.map h2
          have hmx := hl.out.map
          have hown := hl.out.own
          have hlow := hl.out.low
          have hst := fun w3 g cap => hl.out.step (w3 := w3) (g := g) (cap := cap) h2
          have HL2 := Lib.hid HKL.out
          clear hcell
          generalize (⟨(K.getD j []).toArray⟩ : ByteArray) = tj at *
          generalize K.getD j [] = lk at *
          generalize legCells D (K.take j) = xs at *
          have HST := Lib.hid hst
          have hl3 : j + 1 ≤ 4398046511104 := by have := HL2.out; omega
          have hbase : N ≤ wr.heap.size := by omega
          clear hst hl
          go_wp2_with (first
            | (at_lookup; refine wpList_lookup_own_int _ rfl _ _ 39 rfl 9 2 .i64 law Tryz.underlying39 Tryz.underlying2 (zero2 _) bm _ _ rfl hmx _ _ rfl hkey ?_; intro cc hat hwc; obtain rfl := numAt_of hat; clear hat hwc)
            | (at_builtin; refine append_leg rfl _ _ rfl N j _ xs rfl hown tj (numAt D (.string lk)) rfl hl3 hbase ?_; intro g3 cap3 w3 ho3 hg3 hat3)
            | go_in)
          exact ⟨⟨j + 1, by go_num, by omega, Lib.hid (HST.out w3 g3 cap3 ho3 hg3 hat3)⟩, by simp [intOf]; omega⟩
        · have HX := Lib.hid (HPO.out _ _ j hl.out (by omega))
          go_wp2
          go_ret2
          exact HX.out
end Go.Proofs.YtodekiimkbejnaaGreatDoor
