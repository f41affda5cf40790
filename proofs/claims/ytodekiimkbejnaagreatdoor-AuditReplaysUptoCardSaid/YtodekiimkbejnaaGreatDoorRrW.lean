/- remitref28.Replay: walked. -/
import Derived.Test.YtodekiimkbejnaaGreatDoorRrP
import Derived.Handy
import Derived.WalkLawsBesides
import Derived.Deep.QuietTactic
import Derived.BigQuiet
namespace Go.Proofs.YtodekiimkbejnaaGreatDoor
open Go.RowKit Go.WideMaps Go.Maps Go.Sort

/-- What the reference's Replay answers. -/
def RefPost (r : Nat × DataW Unit) (w : World) (e : Ending) (w' : World) : Prop := Below w.heap.size w w' ∧
  (r.1 = 0 ∧ (∃ v, e = .returned (.tuple #[v, .int .i64 0]) ∧ w'.ownsRow w.heap.size 37 2 v (sortedKeys r.2).length (legCells r.2 (sortedKeys r.2))) ∨
   r.1 = 1 ∧ e = .returned (.tuple #[.slice none 0 0, .int .i64 24]) ∨
   r.1 = 2 ∧ e = .returned (.tuple #[.slice none 0 0, .int .i64 10]))
/-- Between the rounds. -/
structure Rr (w wr : World) (g cap : Nat) (D : DataW Unit) : Prop where
  own : wr.ownsRow w.heap.size 37 2 (.slice (some ⟨g, 0, none⟩) (sortedKeys D).length cap) (sortedKeys D).length (legCells D (sortedKeys D))
  bel : Below w.heap.size w wr
theorem Rr.below {w wr w' : World} {g cap : Nat} {D : DataW Unit} (h : Rr w wr g cap D) (hb : Below wr.heap.size wr w') : Rr w w' g cap D :=
  ⟨ownsRow_of_block h.own fun b e => hb.block b (h.own.lt b e).2, h.bel.trans (hb.mono h.bel.size)⟩
theorem keys_nil : sortedKeys (.map []) = [] := by unfold sortedKeys strKeys; simp
theorem rr_start (w : World) : Rr w (w.alloc (.cells #[] 37)) w.heap.size 0 (.map []) := by
  refine ⟨?_, Below.new _ _⟩
  rw [keys_nil]
  exact ⟨rfl, .inr ⟨_, 0, #[], rfl, Nat.le_refl _, heap_alloc_new w _, Nat.le_refl _, Nat.zero_le _, rfl, rfl⟩⟩

set_option maxRecDepth 100000 in
set_option maxHeartbeats 4000000 in
theorem refReplay_any (A : Option Addr) (n c : Nat) (ps : Nat → PostV) (w : World) (hP : PostsAt w A n ps) (hn : n ≤ 1048576) :
    Calls Tryz.prog 7 #[.slice A n c] w (RefPost (postsR ps n) w) := by
  have HP := Lib.hid (fun w' (hb : Below w.heap.size w w') => hP.below hb)
  have HR := Lib.hid (fun k (hk : k ≤ n) (h : (postsR ps k).1 ≠ 0) => postsR_stays h hk)
  generalize hrr : postsR ps n = rr at HR ⊢
  have HRR := Lib.hid hrr
  clear hP hrr
  go_enter Tryz.func7, Tryz.ntmps7
  go_wp2_with fail
  have HR0 := Lib.hid (rr_start w)
  obtain ⟨M, hM⟩ : ∃ M, M = w.heap.size := ⟨_, rfl⟩
  rw [← hM]
  have HM := Lib.hid hM
  generalize w.alloc (.cells #[] 37) = w0 at *
  clear hM
  go_loopw [15, 4, 6, 7] (fun vi vo _ _ wr => ∃ (k g cap : Nat) (D : DataW Unit), vi = .int .i64 k ∧ vo = .slice (some ⟨g, 0, none⟩) (sortedKeys D).length cap ∧ k ≤ n ∧ Hid (Rr w wr g cap D ∧ postsR ps k = (0, D))) (fun vi _ _ _ _ => n - (intOf vi).toNat)
  case atStart => exact ⟨0, M, 0, .map [], rfl, by rw [keys_nil]; rfl, Nat.zero_le _, Lib.hid ⟨HM.out ▸ HR0.out, rfl⟩⟩
  case round =>
    obtain ⟨k, g, cap, D, rfl, rfl, hk, hh⟩ := hrel
    have hrp := hh.out.1
    have hw := hrp.bel
    have hsz := hw.size
    by_cases h : k < n
    · obtain ⟨gA, oA, rfl, hgA, hc⟩ := HP.out _ hw (by omega)
      obtain ⟨⟨c0, c1, c2, c3⟩, hsd, hlg, hla⟩ := hc k h
      have hnb := Below.new wr (.cells #[.string (ps k).id, .int .i64 (ps k).tick, .string (ps k).note, .slice (ps k).A (ps k).n (ps k).c] 35)
      have hw2 := hw.trans (hnb.mono hsz)
      have hrp2 := hrp.below hnb
      have hbx := heap_alloc_new wr (.cells #[.string (ps k).id, .int .i64 (ps k).tick, .string (ps k).note, .slice (ps k).A (ps k).n (ps k).c] 35)
      have a1 := refChk_any (ps k).id (ps k).tick (ps k).note (ps k).A (ps k).n (ps k).c (ps k).lg _ (hlg.below hla hnb) (fun h a e => Nat.lt_of_lt_of_le (hla h a e) hnb.size) hsd.1 hsd.2.1 hsd.2.2
      have HK := Lib.hid (show postsR ps (k + 1) = if (postsR ps k).1 = 0 then (if pOk (ps k) then (match legsR (postsR ps k).2 (ps k).lg (ps k).n with | some E => (0, E) | none => (2, .map [])) else (1, .map [])) else postsR ps k from rfl)
      have HW2 := Lib.hid hw2; have HRP2 := Lib.hid hrp2; have HPK := Lib.hid hh.out.2
      have HLG := Lib.hid (fun w' (hb : Below wr.heap.size wr w') => hlg.below hla hb)
      have HNB := Lib.hid hnb; have HBX := Lib.hid hbx
      have HLE := Lib.hid (show wr.heap.size < (wr.alloc (.cells #[.string (ps k).id, .int .i64 (ps k).tick, .string (ps k).note, .slice (ps k).A (ps k).n (ps k).c] 35)).heap.size by simp)
      clear hh hrp hw hc hnb hw2 hrp2 hbx hlg hla hsd
      cases hq : pOk (ps k) with
      | false =>
        have hq' : pOkB (ps k).id (ps k).tick (ps k).note (ps k).n (ps k).lg = false := hq
        rw [hq'] at a1
        have HF := Lib.hid (show rr = (1, .map []) by
          have e : postsR ps (k + 1) = (1, .map []) := by rw [HK.out, HPK.out, hq]; rfl
          rw [HR.out (k + 1) (by omega) (by rw [e]; decide), e])
        clear hq hq' HK
        go_wp2_with fail
        refine a1.mono ?_
        rintro e w2 ⟨⟨v, rfl, hv⟩, hb2⟩
        have hv' : (v != 0) = true := by unfold bne; rw [hv]; rfl
        have HW3 := Lib.hid (HW2.out.trans (hb2.mono HW2.out.size))
        clear hb2 a1
        go_wp2
        go_ret2
        exact ⟨HW3.out, .inr (.inl ⟨by rw [HF.out], rfl⟩)⟩
      | true =>
        have hq' : pOkB (ps k).id (ps k).tick (ps k).note (ps k).n (ps k).lg = true := hq
        rw [hq'] at a1
        have hm8 : (ps k).n ≤ 8 := by
          unfold pOkB at hq'
          simp only [Bool.and_eq_true] at hq'
          have h2 := hq'.1.2
          unfold nOk at h2
          simp only [Bool.and_eq_true, Bool.not_eq_true', decide_eq_false_iff_not] at h2
          omega
        have HAM := Lib.hid (pOk_amts hq)
        have HGD := Lib.hid (show Good D from by
          have := postsR_good (ps := ps) k (by rw [HPK.out])
          rw [HPK.out] at this; exact this)
        have HLN := Lib.hid (show (sortedKeys D).length ≤ 8 * k from by
          have := sortedKeys_le (ps := ps) (n := k) (by rw [HPK.out])
          rw [HPK.out] at this; exact this)
        have HFS := Lib.hid (show ∀ E, legsR D (ps k).lg (ps k).n = some E → postsR ps (k + 1) = (0, E) from fun E e => by rw [HK.out, HPK.out, hq]; simp only [e]; rfl)
        have HFN := Lib.hid (show legsR D (ps k).lg (ps k).n = none → rr = (2, .map []) from fun e => by
          have e2 : postsR ps (k + 1) = (2, .map []) := by rw [HK.out, HPK.out, hq]; simp only [e]; rfl
          rw [HR.out (k + 1) (by omega) (by rw [e2]; decide), e2])
        clear hq hq' HK
        go_wp2_with fail
        refine a1.mono ?_
        rintro e w2 ⟨⟨v, rfl, hv⟩, hb2⟩
        obtain rfl : v = 0 := by simpa using hv
        have hrp3 := HRP2.out.below hb2
        have hbx3 := (hb2.block wr.heap.size HLE.out).trans HBX.out
        have HBW := Lib.hid (HNB.out.trans (hb2.mono HNB.out.size))
        clear HRP2 HBX hv hb2 a1
        have f3 : w2.cell? ⟨wr.heap.size, 3, none⟩ = some (.slice (ps k).A (ps k).n (ps k).c) := by unfold World.cell?; rw [hbx3]; rfl
        have HR3 := Lib.hid hrp3
        clear hbx3 hrp3
        go_wp2_with fail
        clear f3
        obtain ⟨w1, rfl⟩ : ∃ w1, w1 = wr := ⟨_, rfl⟩
        go_loopw [26, 4, 9, 10, 11] (fun vi vo _ _ _ wx => ∃ (j g cap : Nat) (E : DataW Unit), vi = .int .i64 j ∧ vo = .slice (some ⟨g, 0, none⟩) (sortedKeys E).length cap ∧ j ≤ (ps k).n ∧ (sortedKeys E).length ≤ 8 * k + j ∧ Hid (Rr w wx g cap E ∧ legsR D (ps k).lg j = some E)) (fun vi _ _ _ _ _ => (ps k).n - (intOf vi).toNat)
        case atStart => exact ⟨0, g, cap, D, rfl, rfl, Nat.zero_le _, HLN.out, Lib.hid ⟨HR3.out, rfl⟩⟩
        case round =>
          obtain ⟨j, g, cap, E, rfl, rfl, hj, hlen, hy⟩ := hrel
          by_cases h2 : j < (ps k).n
          · have hw := hy.out.1.bel
            have hrp := hy.out.1
            have hsz2 := hw.size
            obtain ⟨g', o', eg, hg', hc0⟩ := HP.out _ hw (by omega)
            obtain ⟨g2, o2, eA, hg2, hc⟩ := (hc0 k h).2.2.1 (by omega)
            clear hc0 eg hg'
            obtain ⟨d0, d1, hok⟩ := hc j h2
            have hnb := Below.new wr (.cells #[.string ((ps k).lg j).a, .int .i64 ((ps k).lg j).x] 37)
            have hbx := heap_alloc_new wr (.cells #[.string ((ps k).lg j).a, .int .i64 ((ps k).lg j).x] 37)
            have hzx : (wr.alloc (.cells #[.string ((ps k).lg j).a, .int .i64 ((ps k).lg j).x] 37)).heap.size = wr.heap.size + 1 := by simp
            have hrp2 := hrp.below hnb
            have HGE := Lib.hid (legsR_good HAM.out HGD.out j (by omega) E hy.out.2)
            have HSD := Lib.hid (show legsR D (ps k).lg (j + 1) = legR E ((ps k).lg j) by show (legsR D (ps k).lg j).bind _ = _; rw [hy.out.2]; rfl)
            have HSN := Lib.hid (fun e : legsR D (ps k).lg (j + 1) = none => HFN.out (legsR_none e (by omega)))
            have HXB := Lib.hid hok
            have HLR := Lib.hid (show legR E ((ps k).lg j) = if (decide ((4611686018427387904 : Int) < wrap64 (numAt E (kl ((ps k).lg j).a) + ((ps k).lg j).x)) || decide (wrap64 (numAt E (kl ((ps k).lg j).a) + ((ps k).lg j).x) < -4611686018427387904)) = true then none else some (E.put (kl ((ps k).lg j).a) (.lit (.int .i64 (wrap64 (numAt E (kl ((ps k).lg j).a) + ((ps k).lg j).x))))) from rfl)
            generalize legR E ((ps k).lg j) = LR at *
            generalize ((ps k).lg j).x = x at *
            generalize ((ps k).lg j).a = a at *
            generalize hlE : (sortedKeys E).length = len at *
            have HLE2 := Lib.hid hlE
            have HC := Lib.hid (fun i (hi : i < len) W (hb : Below (wr.alloc (.cells #[.string a, .int .i64 x] 37)).heap.size (wr.alloc (.cells #[.string a, .int .i64 x] 37)) W) => (show W.cell? ⟨g, i * 2, none⟩ = some (.string ⟨((sortedKeys E).getD i []).toArray⟩) by
              have hr := (hrp2.below hb).own
              have c1 := hr.cells (g := g) rfl _ _ (legCells_at E (sortedKeys E) i (by omega)).1
              rw [add_at] at c1
              exact c1))
            have HRP2 := Lib.hid hrp2; have HBX := Lib.hid hbx; have HZX := Lib.hid hzx
            have HA9 := Lib.hid (fun W (hb : Below (wr.alloc (.cells #[.string a, .int .i64 x] 37)).heap.size (wr.alloc (.cells #[.string a, .int .i64 x] 37)) W) => (show W.cell? ⟨wr.heap.size, 0, none⟩ = some (.string a) ∧ W.cell? ⟨wr.heap.size, 1, none⟩ = some (.int .i64 x) from by
              have hB := (hb.block wr.heap.size (by omega)).trans hbx
              exact ⟨by unfold World.cell?; rw [hB]; rfl, by unfold World.cell?; rw [hB]; rfl⟩))
            rw [eA]
            clear hc hrp hw hnb hrp2 hy hbx hok hzx hlE
            go_wp2_with fail
            generalize hwl : wr.alloc (.cells #[.string a, .int .i64 x] 37) = wl at *
            obtain ⟨wk, rfl⟩ : ∃ wk, wk = wr := ⟨_, rfl⟩
            have HWL := Lib.hid hwl
            clear hwl
            go_loopw [10] (fun vq wr => ∃ q : Nat, vq = .int .i64 q ∧ q ≤ len ∧ Hid (Below wl.heap.size wl wr ∧ ∀ i, i < q → (sortedKeys E).getD i [] < a.data.toList)) (fun vq _ => len - (intOf vq).toNat)
            case atStart => exact ⟨0, rfl, Nat.zero_le _, Lib.hid ⟨Below.refl _ _, fun i h => by omega⟩⟩
            case round =>
              obtain ⟨q, rfl, hq, hz⟩ := hrel
              obtain ⟨l0, l1⟩ := HA9.out _ hz.out.1
              by_cases hql : q < len
              · have r0 := HC.out q hql _ hz.out.1
                have b1 : decide ((q : Int) < (len : Int)) = true := decide_eq_true (by omega)
                have b2 : decide (q < len) = true := decide_eq_true hql
                have b3 : (0 : Int) ≤ (q : Int) := by omega
                have b4 : (q : Int) < (len : Int) := by omega
                have hle := less_eq ((sortedKeys E).getD q []) a
                have hse := same_eq ((sortedKeys E).getD q []) a
                have HZ := hz
                clear hz
                cases t1 : decide ((sortedKeys E).getD q [] < a.data.toList) with
                | true =>
                  rw [t1] at hle
                  have HQ1 := Lib.hid (show ∀ i, i < q + 1 → (sortedKeys E).getD i [] < a.data.toList from fun i hi => by
                    by_cases e : i = q
                    · subst e; exact of_decide_eq_true t1
                    · exact HZ.out.2 i (by omega))
                  have HB := Lib.hid HZ.out.1
                  clear hse t1 HZ
                  generalize (⟨((sortedKeys E).getD q []).toArray⟩ : ByteArray) = tq at *
                  go_wp2
                  go_quiet (fail)
                  go_wp2
                  exact ⟨⟨q + 1, by go_num, by omega, Lib.hid ⟨below_drewN HB.out _, HQ1.out⟩⟩, by simp [intOf]; omega⟩
                | false =>
                  rw [t1] at hle
                  have HB := Lib.hid HZ.out.1
                  have HQL := Lib.hid HZ.out.2
                  have n1 : ((q : Int) == (len : Int)) = false := beq_eq_false_iff_ne.2 (by omega)
                  have n2 : (q == len) = false := beq_eq_false_iff_ne.2 (by omega)
                  clear HZ
                  cases t2 : decide ((sortedKeys E).getD q [] = a.data.toList) with
                  | true =>
                    rw [t2] at hse
                    have HEQ := Lib.hid (of_decide_eq_true t2)
                    have hse' : ((⟨((sortedKeys E).getD q []).toArray⟩ : ByteArray).toList != a.toList) = false := by unfold bne; rw [hse]; rfl
                    clear t1 t2
                    generalize hgq : (⟨((sortedKeys E).getD q []).toArray⟩ : ByteArray) = tq at *
                    have HGQ := Lib.hid hgq
                    clear hgq
                    go_wp2
                    go_quiet (fail)
                    go_wp2
                    have hbm := below_drewN HB.out nq
                    generalize wr.drewN nq = wm at *
                    clear l0 l1
                    obtain ⟨l0, l1⟩ := HA9.out _ hbm
                    clear r0
                    have r0 := HC.out q hql _ hbm
                    rw [HGQ.out] at r0
                    have HBM := Lib.hid hbm
                    clear hbm
                    go_quiet (fail)
                    obtain ⟨wn, hwn⟩ : ∃ wn, wn = wm.drewN nq := ⟨_, rfl⟩
                    have hbn : Below wl.heap.size wl wn := by rw [hwn]; exact below_drewN HBM.out nq
                    rw [← hwn]
                    clear hwn l0 l1
                    clear r0
                    have hTl := tl_old HGE.out (a := a) (q := q) (by have := HLE2.out; omega) HEQ.out
                    have hown := (HRP2.out.below hbn).own
                    rw [HLE2.out] at hTl hown
                    rw [← HM.out] at hown
                    obtain ⟨wt, gt, capt, len2, C, hbt, e1, e2, e3, e4, e5⟩ : ∃ (wt : World) (gt capt len2 : Nat) (C : List Value), Below wl.heap.size wl wt ∧ wt = wn ∧ gt = g ∧ capt = cap ∧ len2 = len ∧ C = legCells E (sortedKeys E) := ⟨wn, g, cap, len, _, hbn, rfl, rfl, rfl, rfl, rfl⟩
                    rw [← e1, ← e2, ← e3, ← e4, ← e5] at hown
                    rw [← e4, ← e5] at hTl
                    rw [← e1, ← e2, ← e3, ← e4]
                    clear e1 e2 e3 e4 e5 hbn
                    have hlt2 := hTl.lt
                    have hl2 := hTl.len
                    have r1 := hown.cells (g := gt) rfl _ _ hTl.amt
                    rw [add_at] at r1
                    have hgt := (hown.lt gt rfl)
                    have hfr : wt.frozen? ⟨gt, q * 2 + 1, none⟩ = false := by
                      rcases hown.2 with ⟨h', _⟩ | ⟨g', cap', cur, h', _, hg, _⟩
                      · cases h'
                      · cases h'
                        unfold World.frozen?; rw [hg]; rfl
                    obtain ⟨_, l1⟩ := HA9.out _ hbt
                    have hlb : wk.heap.size < wt.heap.size := by have := HZX.out; have := hbt.size; omega
                    have HKP := Lib.hid (fun W (hb : Below wt.heap.size wt W) => (show W.cell? ⟨gt, q * 2 + 1, none⟩ = some (.int .i64 (numAt E (kl a))) ∧ W.cell? ⟨wk.heap.size, 1, none⟩ = some (.int .i64 x) ∧ W.frozen? ⟨gt, q * 2 + 1, none⟩ = false from
                      ⟨(hb.cell (by exact hgt.2)).trans r1, (hb.cell (by exact hlb)).trans l1, (hb.frozen (by exact hgt.2)).trans hfr⟩))
                    have HST := Lib.hid (fun s => (hown.stored (q * 2 + 1) (.int .i64 s)))
                    have HTL := Lib.hid hTl
                    have HBT := Lib.hid (Below.trans HRP2.out.bel (hbt.mono HRP2.out.bel.size))
                    have HGT := Lib.hid hgt
                    have HS0 := Lib.hid ((Below.refl wt.heap.size wt).drew)
                    have hq0 : (0 : Int) ≤ (q : Int) := by omega
                    have hq2 : (q : Int) < (len2 : Int) := by omega
                    have HLR2 := HLR
                    generalize hy : numAt E (kl a) = y at *
                    obtain ⟨s, hs⟩ : ∃ s, IntKind.i64.wrap (y + x) = s := ⟨_, rfl⟩
                    have hs64 : wrap64 (y + x) = s := by rw [← hs, IntWalk.i64_left]
                    rw [hs64] at HLR2
                    have HS64 := Lib.hid hs64
                    clear hown hTl hbt r1 hfr l1 hgt hlb hy hs64
                    go_wp2
                    refine wp_region_E (S := fun W => Below wt.heap.size wt W) (late := [10]) (by kernel_rfl) ?_
                    refine wpAnyE_take (i := 0) (v := ?_) rfl (by kernel_rfl) (by kernel_rfl) (by kernel_rfl) (by kernel_rfl) (by kernel_rfl) (fun _ _ _ h => h) (Or.inl ⟨by rfl, fun W hSw => ?_⟩) HS0.out ?_
                    rotate_left
                    · clear hSw; go_simp; try with_reducible rfl
                    try simp only [Act.put, List.setIfInBounds_toArray, List.set_cons_zero, List.set_cons_succ]
                    refine wpAnyE_take (i := 1) (v := ?_) rfl (by kernel_rfl) (by kernel_rfl) (by kernel_rfl) (by kernel_rfl) (by kernel_rfl) (fun _ _ _ h => h) (Or.inl ⟨by rfl, fun W hSw => ?_⟩) HS0.out ?_
                    rotate_left
                    · clear hSw; go_simp; try with_reducible rfl
                    try simp only [Act.put, List.setIfInBounds_toArray, List.set_cons_zero, List.set_cons_succ]
                    refine wpAnyE_take (i := 2) (v := ?_) rfl (by kernel_rfl) (by kernel_rfl) (by kernel_rfl) (by kernel_rfl) (by kernel_rfl) (fun _ _ _ h => h) (Or.inl ⟨by rfl, fun W hSw => ?_⟩) HS0.out ?_
                    rotate_left
                    · clear hSw; go_simp; try with_reducible rfl
                    try simp only [Act.put, List.setIfInBounds_toArray, List.set_cons_zero, List.set_cons_succ]
                    refine wpAnyE_take (i := 3) (v := ?_) rfl (by kernel_rfl) (by kernel_rfl) (by kernel_rfl) (by kernel_rfl) (by kernel_rfl) (fun _ _ _ h => h) (Or.inl ⟨by rfl, fun W hSw => ?_⟩) HS0.out ?_
                    rotate_left
                    · clear hSw; go_simp; try with_reducible rfl
                    try simp only [Act.put, List.setIfInBounds_toArray, List.set_cons_zero, List.set_cons_succ]
                    refine wpAnyE_take (i := 4) (v := ?_) rfl (by kernel_rfl) (by kernel_rfl) (by kernel_rfl) (by kernel_rfl) (by kernel_rfl) (fun _ _ _ h => h) (Or.inl ⟨by rfl, fun W hSw => ?_⟩) HS0.out ?_
                    rotate_left
                    · obtain ⟨q1, q2, q3⟩ := HKP.out W hSw; clear hSw; go_simp; with_reducible rfl
                    try simp only [Act.put, List.setIfInBounds_toArray, List.set_cons_zero, List.set_cons_succ]
                    refine wpAnyE_take (i := 5) (v := ?_) rfl (by kernel_rfl) (by kernel_rfl) (by kernel_rfl) (by kernel_rfl) (by kernel_rfl) (fun _ _ _ h => h) (Or.inl ⟨by rfl, fun W hSw => ?_⟩) HS0.out ?_
                    rotate_left
                    · clear hSw; go_simp; try with_reducible rfl
                    try simp only [Act.put, List.setIfInBounds_toArray, List.set_cons_zero, List.set_cons_succ]
                    refine wpAnyE_take (i := 6) (v := ?_) rfl (by kernel_rfl) (by kernel_rfl) (by kernel_rfl) (by kernel_rfl) (by kernel_rfl) (fun _ _ _ h => h) (Or.inl ⟨by rfl, fun W hSw => ?_⟩) HS0.out ?_
                    rotate_left
                    · obtain ⟨q1, q2, q3⟩ := HKP.out W hSw; clear hSw; go_simp; with_reducible rfl
                    try simp only [Act.put, List.setIfInBounds_toArray, List.set_cons_zero, List.set_cons_succ]
                    refine wpAnyE_take (i := 7) (v := ?_) rfl (by kernel_rfl) (by kernel_rfl) (by kernel_rfl) (by kernel_rfl) (by kernel_rfl) (fun _ _ _ h => h) (Or.inl ⟨by rfl, fun W hSw => ?_⟩) HS0.out ?_
                    rotate_left
                    · clear hSw; go_simp; try with_reducible rfl
                    try simp only [Act.put, List.setIfInBounds_toArray, List.set_cons_zero, List.set_cons_succ]
                    refine wpAnyE_one (i := 8) (by kernel_rfl) rfl (fun K hK => ?_)
                    go_simp
                    refine hK.out _ _ (.inr HS0.out) ?_
                    clear hK K
                    try simp only [Act.put, List.setIfInBounds_toArray, List.set_cons_zero, List.set_cons_succ]
                    refine wpAnyE_one (i := 9) (by kernel_rfl) rfl (fun K hK => ?_)
                    go_simp
                    refine hK.out _ _ (.inr HS0.out) ?_
                    clear hK K
                    try simp only [Act.put, List.setIfInBounds_toArray, List.set_cons_zero, List.set_cons_succ]
                    obtain ⟨q1, q2, q3⟩ := HKP.out _ HS0.out
                    refine wpAnyE_one (i := 10) (by kernel_rfl) rfl (fun K hK => ?_)
                    go_simp
                    refine hK.out _ _ (.inl rfl) ?_
                    clear hK K q1 q2 q3
                    refine wpAnyE_done (by kernel_rfl) ?_ _
                    obtain ⟨hst1, hst2⟩ := HST.out s
                    have hown2 : (wt.setCell ⟨gt, q * 2 + 1, none⟩ (.int .i64 s)).drew.ownsRow M 37 2 (.slice (some ⟨gt, 0, none⟩) len2 capt) len2 (C.set (q * 2 + 1) (.int .i64 s)) := ownsRow_of_block hst1 fun _ _ => rfl
                    have hb2 : Below w.heap.size w (wt.setCell ⟨gt, q * 2 + 1, none⟩ (.int .i64 s)).drew := (HBT.out.grown hst2 HBT.out.size (fun b e => by obtain rfl := Option.some.inj (show some gt = some b from e); have := HGT.out.1; have := HM.out; omega)).drew
                    clear hst1 hst2
                    generalize (wt.setCell ⟨gt, q * 2 + 1, none⟩ (.int .i64 s)).drew = wz at *
                    have HOW := Lib.hid hown2
                    have HB2 := Lib.hid hb2
                    have r2 : wz.cell? ⟨gt, q * 2 + 1, none⟩ = some (.int .i64 s) := by
                      have := hown2.cells (g := gt) rfl (q * 2 + 1) (.int .i64 s) (by
                        have := List.getElem?_eq_some_iff.1 HTL.out.amt
                        obtain ⟨hh, _⟩ := this
                        rw [List.getElem?_set_self hh])
                      rwa [add_at] at this
                    clear hown2 hb2
                    cases e1 : decide ((4611686018427387904 : Int) < s) with
                    | true =>
                      have HF := Lib.hid (HSN.out (by rw [HSD.out, HLR2.out]; simp only [e1]; rfl))
                      go_wp2
                      go_ret2
                      exact ⟨HB2.out, .inr (.inr ⟨by rw [HF.out], rfl⟩)⟩
                    | false =>
                    cases e2 : decide (s < -4611686018427387904) with
                    | true =>
                      have HF := Lib.hid (HSN.out (by rw [HSD.out, HLR2.out]; simp only [e1, e2]; rfl))
                      go_wp2
                      go_ret2
                      exact ⟨HB2.out, .inr (.inr ⟨by rw [HF.out], rfl⟩)⟩
                    | false =>
                      have HF := Lib.hid (show legsR D (ps k).lg (j + 1) = some (E.put (kl a) (.lit (.int .i64 s))) by rw [HSD.out, HLR2.out]; simp only [e1, e2]; rfl)
                      have HFN := HTL.out.fin s
                      have HRN := Lib.hid (show Rr w wz gt capt (E.put (kl a) (.lit (.int .i64 s))) from ⟨by rw [HFN.1, HFN.2, ← HM.out]; exact HOW.out, HB2.out⟩)
                      have hnl := HFN.1
                      have HNL := Lib.hid hnl
                      clear HFN hnl
                      go_wp2
                      exact ⟨⟨j + 1, gt, capt, E.put (kl a) (.lit (.int .i64 s)), by go_num, by rw [HNL.out], by omega, by have := HNL.out; have := HLE2.out; omega, Lib.hid ⟨HRN.out, HF.out⟩⟩, by simp [intOf]; omega⟩
                  | false =>
                    rw [t2] at hse
                    have HGT2 := Lib.hid (show a.data.toList < (sortedKeys E).getD q [] by
                      have g1 := of_decide_eq_false t1
                      have g2 := of_decide_eq_false t2
                      by_cases g3 : a.data.toList < (sortedKeys E).getD q []
                      · exact g3
                      · exact absurd (List.le_antisymm (List.not_lt.1 g3) (List.not_lt.1 g1)) g2)
                    have hse' : ((⟨((sortedKeys E).getD q []).toArray⟩ : ByteArray).toList != a.toList) = true := by unfold bne; rw [hse]; rfl
                    have HTN := Lib.hid (tl_new HGE.out (a := a) (q := q) (by have := HLE2.out; omega) HQL.out (fun _ => HGT2.out))
                    clear t1 t2
                    generalize hgq : (⟨((sortedKeys E).getD q []).toArray⟩ : ByteArray) = tq at *
                    have HGQ := Lib.hid hgq
                    clear hgq
                    go_wp2
                    go_quiet (fail)
                    go_wp2
                    have hbm := below_drewN HB.out nq
                    generalize wr.drewN nq = wm at *
                    clear l0 l1
                    obtain ⟨l0, l1⟩ := HA9.out _ hbm
                    clear r0
                    have r0 := HC.out q hql _ hbm
                    rw [HGQ.out] at r0
                    have HBM := Lib.hid hbm
                    clear hbm
                    go_quiet (fail)
                    obtain ⟨wn, hwn⟩ : ∃ wn, wn = wm.drewN nq := ⟨_, rfl⟩
                    have hbn : Below wl.heap.size wl wn := by rw [hwn]; exact below_drewN HBM.out nq
                    rw [← hwn]
                    clear hwn l0 l1
                    clear r0
                    have hown0 := (HRP2.out.below hbn).own
                    rw [HLE2.out] at hown0
                    rw [← HM.out] at hown0
                    obtain ⟨hcp1, hcp2, hcp3⟩ := row_cap hown0
                    have s1 : (0 : Int) ≤ (q : Int) := by omega
                    have s2 : (q : Int) ≤ (cap : Int) := by omega
                    have s3 : (q : Int) ≤ (len : Int) := by omega
                    have s4 : (len : Int) ≤ (cap : Int) := by omega
                    have hMn : M ≤ wn.heap.size := by omega
                    have hxl : (legCells E (sortedKeys E)).length = len * 2 := by rw [legCells_length, HLE2.out]
                    have hone := legCells_one E (sortedKeys E)
                    have HTN2 := HTN
                    generalize hCE : legCells E (sortedKeys E) = C0 at *
                    obtain ⟨i1, ji0, jz0, jz1, jz2⟩ := info37'
                    have hnbn := Below.new wn (.cells #[] 37)
                    have hzn : (wn.alloc (.cells #[] 37)).heap.size = wn.heap.size + 1 := by simp
                    have hfresh : (wn.alloc (.cells #[] 37)).ownsRow M 37 2 (.slice (some ⟨wn.heap.size, 0, none⟩) 0 0) 0 [] := ⟨rfl, .inr ⟨_, 0, #[], rfl, hMn, heap_alloc_new wn _, Nat.le_refl _, Nat.zero_le _, rfl, rfl⟩⟩
                    have hpre := (ownsRow_prefix (k := q) hown0 (by omega)).alloc (.cells #[] 37)
                    have hl1 : (C0.take (q * 2)).length = q * 2 := by rw [List.length_take]; omega
                    have hsrc1 : 0 < q → ∃ ad, some (⟨g, 0, none⟩ : Addr) = some ad ∧ ∀ jj u, (C0.take (q * 2))[jj]? = some u → (wn.alloc (.cells #[] 37)).cell? (ad.add jj) = some u := fun _ => ⟨_, rfl, hpre.cells (g := g) rfl⟩
                    have hone1 : ∀ y ∈ C0.take (q * 2), y.oneCell' = true := fun y hy => hone y (List.mem_of_mem_take hy)
                    have hone2 : ∀ y ∈ C0.drop (q * 2), y.oneCell' = true := fun y hy => hone y (List.mem_of_mem_drop hy)
                    have hl2' : (C0.drop (q * 2)).length = (len - q) * 2 := by rw [List.length_drop]; omega
                    have HN := Lib.hid hnbn; have HZN := Lib.hid hzn
                    have HBN := Lib.hid hbn
                    have HOLD := Lib.hid (fun W (hb : Below wn.heap.size wn W) jj u (h : (C0.drop (q * 2))[jj]? = some u) => (show W.cell? ((⟨g, q * 2, none⟩ : Addr).add jj) = some u by
                      rw [List.getElem?_drop] at h
                      have h1 := hown0.cells (g := g) rfl _ _ h
                      rw [add_at] at h1
                      have e : (⟨g, q * 2, none⟩ : Addr).add jj = ⟨g, q * 2 + jj, none⟩ := by unfold Addr.add; split <;> simp_all
                      rw [e]
                      exact (hb.cell (by exact hcp3)).trans h1))
                    have HCE := Lib.hid hCE
                    have hk3 : k < 1048576 := by omega
                    have hj8 : j < 8 := by omega
                    clear hnbn hzn hpre hbn hown0 hone hCE hxl
                    go_wp2_with (first
                      | (at_builtin; refine wpList_append_src rfl _ _ 25 rfl M 37 i1 _ 2 24 Tryz.underlying25 ji0 jz0 jz1 jz2 rfl (by decide) wn.heap.size 0 0 [] rfl hfresh (some ⟨g, 0, none⟩) q cap (C0.take (q * 2)) rfl hl1 hsrc1 hone1 (by unfold maxLen; omega) (by omega) (by have := HZN.out; omega) ?_; intro g3 cap3 w3 ho3 hg3 hat3; simp only [Nat.zero_add, List.nil_append] at ho3; have hb3 : Below wn.heap.size wn w3 := HN.out.grown hg3 (by have := HZN.out; omega) (fun b e => by have := Option.some.inj (show some wn.heap.size = some b from e); omega); obtain ⟨l0, l1⟩ := HA9.out w3 (HBN.out.trans (hb3.mono HBN.out.size)); have hs3 := hb3.size; have hMs3 : M ≤ w3.heap.size := (by omega); have hg3l : wn.heap.size ≤ g3 := (by have h4 := HZN.out; rcases hat3 with e | e <;> omega); have hr3 := row_cap ho3; have hlen3 : q + 1 ≤ 4398046511104 := (by omega); clear hfresh hsrc1 hg3 hat3)
                      | (at_builtin; refine append_leg rfl _ _ rfl M q _ (C0.take (q * 2)) rfl ho3 a 0 rfl hlen3 hMs3 ?_; intro g4 cap4 w4 ho4 hg4 hat4; have hb4 : Below wn.heap.size wn w4 := hb3.grown hg4 hs3 (fun b e => by have := Option.some.inj (show some g3 = some b from e); omega); have hs4 := hb4.size; have hMs4 : M ≤ w4.heap.size := (by omega); have hg4l : wn.heap.size ≤ g4 := (by rcases hat4 with e | e; · { have := Option.some.inj (show some g3 = some g4 from e); omega }; · omega); clear ho3 hg4 hat4 l0 l1)
                      | (at_builtin; refine wpList_append_src rfl _ _ 25 rfl M 37 i1 _ 2 24 Tryz.underlying25 ji0 jz0 jz1 jz2 rfl (by decide) g4 (q + 1) cap4 _ rfl ho4 (some ⟨g, q * 2, none⟩) (len - q) (cap - q) (C0.drop (q * 2)) rfl hl2' (fun _ => ⟨_, rfl, HOLD.out w4 hb4⟩) hone2 (by unfold maxLen; omega) (by omega) hMs4 ?_; intro gt capt wt hown hgt hatt; rw [show q + 1 + (len - q) = len + 1 by omega] at hown ⊢; have hbt : Below wl.heap.size wl wt := HBN.out.trans ((hb4.grown hgt hs4 (fun b e => by have := Option.some.inj (show some g4 = some b from e); omega)).mono HBN.out.size); clear ho4 hgt hatt))
                    have hTl := HTN.out
                    rw [bytes_eta, HLE2.out] at hTl
                    obtain ⟨len2, C, e4, e5⟩ : ∃ (len2 : Nat) (C : List Value), len2 = len + 1 ∧ C = C0.take (q * 2) ++ [Value.string a, Value.int .i64 0] ++ C0.drop (q * 2) := ⟨_, _, rfl, rfl⟩
                    rw [← e4, ← e5] at hown hTl
                    rw [← e4]
                    clear e4 e5 HTN HTN2 HOLD HCE hone1 hone2 hl1 hl2' hr3 hb3 hb4 hs3 hs4 hMs3 hMs4 hg3l hg4l ji0 jz0 jz1 jz2 hlen3
                    have hlt2 := hTl.lt
                    have hl2 := hTl.len
                    have r1 := hown.cells (g := gt) rfl _ _ hTl.amt
                    rw [add_at] at r1
                    have hgt := (hown.lt gt rfl)
                    have hfr : wt.frozen? ⟨gt, q * 2 + 1, none⟩ = false := by
                      rcases hown.2 with ⟨h', _⟩ | ⟨g', cap', cur, h', _, hg, _⟩
                      · cases h'
                      · cases h'
                        unfold World.frozen?; rw [hg]; rfl
                    obtain ⟨_, l1⟩ := HA9.out _ hbt
                    have hlb : wk.heap.size < wt.heap.size := by have := HZX.out; have := hbt.size; omega
                    have HKP := Lib.hid (fun W (hb : Below wt.heap.size wt W) => (show W.cell? ⟨gt, q * 2 + 1, none⟩ = some (.int .i64 (numAt E (kl a))) ∧ W.cell? ⟨wk.heap.size, 1, none⟩ = some (.int .i64 x) ∧ W.frozen? ⟨gt, q * 2 + 1, none⟩ = false from
                      ⟨(hb.cell (by exact hgt.2)).trans r1, (hb.cell (by exact hlb)).trans l1, (hb.frozen (by exact hgt.2)).trans hfr⟩))
                    have HST := Lib.hid (fun s => (hown.stored (q * 2 + 1) (.int .i64 s)))
                    have HTL := Lib.hid hTl
                    have HBT := Lib.hid (Below.trans HRP2.out.bel (hbt.mono HRP2.out.bel.size))
                    have HGT := Lib.hid hgt
                    have HS0 := Lib.hid ((Below.refl wt.heap.size wt).drew)
                    have hq0 : (0 : Int) ≤ (q : Int) := by omega
                    have hq2 : (q : Int) < (len2 : Int) := by omega
                    have HLR2 := HLR
                    generalize hy : numAt E (kl a) = y at *
                    obtain ⟨s, hs⟩ : ∃ s, IntKind.i64.wrap (y + x) = s := ⟨_, rfl⟩
                    have hs64 : wrap64 (y + x) = s := by rw [← hs, IntWalk.i64_left]
                    rw [hs64] at HLR2
                    have HS64 := Lib.hid hs64
                    clear hown hTl hbt r1 hfr l1 hgt hlb hy hs64
                    go_wp2
                    refine wp_region_E (S := fun W => Below wt.heap.size wt W) (late := [10]) (by kernel_rfl) ?_
                    refine wpAnyE_take (i := 0) (v := ?_) rfl (by kernel_rfl) (by kernel_rfl) (by kernel_rfl) (by kernel_rfl) (by kernel_rfl) (fun _ _ _ h => h) (Or.inl ⟨by rfl, fun W hSw => ?_⟩) HS0.out ?_
                    rotate_left
                    · clear hSw; go_simp; try with_reducible rfl
                    try simp only [Act.put, List.setIfInBounds_toArray, List.set_cons_zero, List.set_cons_succ]
                    refine wpAnyE_take (i := 1) (v := ?_) rfl (by kernel_rfl) (by kernel_rfl) (by kernel_rfl) (by kernel_rfl) (by kernel_rfl) (fun _ _ _ h => h) (Or.inl ⟨by rfl, fun W hSw => ?_⟩) HS0.out ?_
                    rotate_left
                    · clear hSw; go_simp; try with_reducible rfl
                    try simp only [Act.put, List.setIfInBounds_toArray, List.set_cons_zero, List.set_cons_succ]
                    refine wpAnyE_take (i := 2) (v := ?_) rfl (by kernel_rfl) (by kernel_rfl) (by kernel_rfl) (by kernel_rfl) (by kernel_rfl) (fun _ _ _ h => h) (Or.inl ⟨by rfl, fun W hSw => ?_⟩) HS0.out ?_
                    rotate_left
                    · clear hSw; go_simp; try with_reducible rfl
                    try simp only [Act.put, List.setIfInBounds_toArray, List.set_cons_zero, List.set_cons_succ]
                    refine wpAnyE_take (i := 3) (v := ?_) rfl (by kernel_rfl) (by kernel_rfl) (by kernel_rfl) (by kernel_rfl) (by kernel_rfl) (fun _ _ _ h => h) (Or.inl ⟨by rfl, fun W hSw => ?_⟩) HS0.out ?_
                    rotate_left
                    · clear hSw; go_simp; try with_reducible rfl
                    try simp only [Act.put, List.setIfInBounds_toArray, List.set_cons_zero, List.set_cons_succ]
                    refine wpAnyE_take (i := 4) (v := ?_) rfl (by kernel_rfl) (by kernel_rfl) (by kernel_rfl) (by kernel_rfl) (by kernel_rfl) (fun _ _ _ h => h) (Or.inl ⟨by rfl, fun W hSw => ?_⟩) HS0.out ?_
                    rotate_left
                    · obtain ⟨q1, q2, q3⟩ := HKP.out W hSw; clear hSw; go_simp; with_reducible rfl
                    try simp only [Act.put, List.setIfInBounds_toArray, List.set_cons_zero, List.set_cons_succ]
                    refine wpAnyE_take (i := 5) (v := ?_) rfl (by kernel_rfl) (by kernel_rfl) (by kernel_rfl) (by kernel_rfl) (by kernel_rfl) (fun _ _ _ h => h) (Or.inl ⟨by rfl, fun W hSw => ?_⟩) HS0.out ?_
                    rotate_left
                    · clear hSw; go_simp; try with_reducible rfl
                    try simp only [Act.put, List.setIfInBounds_toArray, List.set_cons_zero, List.set_cons_succ]
                    refine wpAnyE_take (i := 6) (v := ?_) rfl (by kernel_rfl) (by kernel_rfl) (by kernel_rfl) (by kernel_rfl) (by kernel_rfl) (fun _ _ _ h => h) (Or.inl ⟨by rfl, fun W hSw => ?_⟩) HS0.out ?_
                    rotate_left
                    · obtain ⟨q1, q2, q3⟩ := HKP.out W hSw; clear hSw; go_simp; with_reducible rfl
                    try simp only [Act.put, List.setIfInBounds_toArray, List.set_cons_zero, List.set_cons_succ]
                    refine wpAnyE_take (i := 7) (v := ?_) rfl (by kernel_rfl) (by kernel_rfl) (by kernel_rfl) (by kernel_rfl) (by kernel_rfl) (fun _ _ _ h => h) (Or.inl ⟨by rfl, fun W hSw => ?_⟩) HS0.out ?_
                    rotate_left
                    · clear hSw; go_simp; try with_reducible rfl
                    try simp only [Act.put, List.setIfInBounds_toArray, List.set_cons_zero, List.set_cons_succ]
                    refine wpAnyE_one (i := 8) (by kernel_rfl) rfl (fun K hK => ?_)
                    go_simp
                    refine hK.out _ _ (.inr HS0.out) ?_
                    clear hK K
                    try simp only [Act.put, List.setIfInBounds_toArray, List.set_cons_zero, List.set_cons_succ]
                    refine wpAnyE_one (i := 9) (by kernel_rfl) rfl (fun K hK => ?_)
                    go_simp
                    refine hK.out _ _ (.inr HS0.out) ?_
                    clear hK K
                    try simp only [Act.put, List.setIfInBounds_toArray, List.set_cons_zero, List.set_cons_succ]
                    obtain ⟨q1, q2, q3⟩ := HKP.out _ HS0.out
                    refine wpAnyE_one (i := 10) (by kernel_rfl) rfl (fun K hK => ?_)
                    go_simp
                    refine hK.out _ _ (.inl rfl) ?_
                    clear hK K q1 q2 q3
                    refine wpAnyE_done (by kernel_rfl) ?_ _
                    obtain ⟨hst1, hst2⟩ := HST.out s
                    have hown2 : (wt.setCell ⟨gt, q * 2 + 1, none⟩ (.int .i64 s)).drew.ownsRow M 37 2 (.slice (some ⟨gt, 0, none⟩) len2 capt) len2 (C.set (q * 2 + 1) (.int .i64 s)) := ownsRow_of_block hst1 fun _ _ => rfl
                    have hb2 : Below w.heap.size w (wt.setCell ⟨gt, q * 2 + 1, none⟩ (.int .i64 s)).drew := (HBT.out.grown hst2 HBT.out.size (fun b e => by obtain rfl := Option.some.inj (show some gt = some b from e); have := HGT.out.1; have := HM.out; omega)).drew
                    clear hst1 hst2
                    generalize (wt.setCell ⟨gt, q * 2 + 1, none⟩ (.int .i64 s)).drew = wz at *
                    have HOW := Lib.hid hown2
                    have HB2 := Lib.hid hb2
                    have r2 : wz.cell? ⟨gt, q * 2 + 1, none⟩ = some (.int .i64 s) := by
                      have := hown2.cells (g := gt) rfl (q * 2 + 1) (.int .i64 s) (by
                        have := List.getElem?_eq_some_iff.1 HTL.out.amt
                        obtain ⟨hh, _⟩ := this
                        rw [List.getElem?_set_self hh])
                      rwa [add_at] at this
                    clear hown2 hb2
                    cases e1 : decide ((4611686018427387904 : Int) < s) with
                    | true =>
                      have HF := Lib.hid (HSN.out (by rw [HSD.out, HLR2.out]; simp only [e1]; rfl))
                      go_wp2
                      go_ret2
                      exact ⟨HB2.out, .inr (.inr ⟨by rw [HF.out], rfl⟩)⟩
                    | false =>
                    cases e2 : decide (s < -4611686018427387904) with
                    | true =>
                      have HF := Lib.hid (HSN.out (by rw [HSD.out, HLR2.out]; simp only [e1, e2]; rfl))
                      go_wp2
                      go_ret2
                      exact ⟨HB2.out, .inr (.inr ⟨by rw [HF.out], rfl⟩)⟩
                    | false =>
                      have HF := Lib.hid (show legsR D (ps k).lg (j + 1) = some (E.put (kl a) (.lit (.int .i64 s))) by rw [HSD.out, HLR2.out]; simp only [e1, e2]; rfl)
                      have HFN := HTL.out.fin s
                      have HRN := Lib.hid (show Rr w wz gt capt (E.put (kl a) (.lit (.int .i64 s))) from ⟨by rw [HFN.1, HFN.2, ← HM.out]; exact HOW.out, HB2.out⟩)
                      have hnl := HFN.1
                      have HNL := Lib.hid hnl
                      clear HFN hnl
                      go_wp2
                      exact ⟨⟨j + 1, gt, capt, E.put (kl a) (.lit (.int .i64 s)), by go_num, by rw [HNL.out], by omega, by have := HNL.out; have := HLE2.out; omega, Lib.hid ⟨HRN.out, HF.out⟩⟩, by simp [intOf]; omega⟩
              · obtain rfl : q = len := by omega
                have b1 : decide ((q : Int) < (q : Int)) = false := decide_eq_false (by omega)
                have b2 : decide (q < q) = false := decide_eq_false (by omega)
                have n1 : ((q : Int) == (q : Int)) = true := beq_self_eq_true _
                have n2 : (q == q) = true := beq_self_eq_true _
                have HB := Lib.hid hz.out.1
                have HTN := Lib.hid (tl_new HGE.out (a := a) (q := q) (by have := HLE2.out; omega) hz.out.2 (fun h => by have := HLE2.out; omega))
                clear hz
                go_wp2
                go_quiet (fail)
                go_wp2
                have hbm := below_drewN HB.out nq
                generalize wr.drewN nq = wm at *
                clear l0 l1
                obtain ⟨l0, l1⟩ := HA9.out _ hbm
                have HBM := Lib.hid hbm
                clear hbm
                go_quiet (fail)
                obtain ⟨wn, hwn⟩ : ∃ wn, wn = wm.drewN nq := ⟨_, rfl⟩
                have hbn : Below wl.heap.size wl wn := by rw [hwn]; exact below_drewN HBM.out nq
                rw [← hwn]
                clear hwn l0 l1
                by_cases hcq : q = cap
                · subst hcq
                  have hown0 := (HRP2.out.below hbn).own
                  rw [HLE2.out] at hown0
                  rw [← HM.out] at hown0
                  obtain ⟨hcp1, hcp2, hcp3⟩ := row_cap hown0
                  have s1 : (0 : Int) ≤ (q : Int) := by omega
                  have s2 : (q : Int) ≤ (q : Int) := by omega
                  have s3 : (q : Int) ≤ (q : Int) := by omega
                  have s4 : (q : Int) ≤ (q : Int) := by omega
                  have hMn : M ≤ wn.heap.size := by omega
                  have hxl : (legCells E (sortedKeys E)).length = q * 2 := by rw [legCells_length, HLE2.out]
                  have hone := legCells_one E (sortedKeys E)
                  have HTN2 := HTN
                  generalize hCE : legCells E (sortedKeys E) = C0 at *
                  obtain ⟨i1, ji0, jz0, jz1, jz2⟩ := info37'
                  have hnbn := Below.new wn (.cells #[] 37)
                  have hzn : (wn.alloc (.cells #[] 37)).heap.size = wn.heap.size + 1 := by simp
                  have hfresh : (wn.alloc (.cells #[] 37)).ownsRow M 37 2 (.slice (some ⟨wn.heap.size, 0, none⟩) 0 0) 0 [] := ⟨rfl, .inr ⟨_, 0, #[], rfl, hMn, heap_alloc_new wn _, Nat.le_refl _, Nat.zero_le _, rfl, rfl⟩⟩
                  have hpre := (ownsRow_prefix (k := q) hown0 (by omega)).alloc (.cells #[] 37)
                  have hl1 : (C0.take (q * 2)).length = q * 2 := by rw [List.length_take]; omega
                  have hsrc1 : 0 < q → ∃ ad, some (⟨g, 0, none⟩ : Addr) = some ad ∧ ∀ jj u, (C0.take (q * 2))[jj]? = some u → (wn.alloc (.cells #[] 37)).cell? (ad.add jj) = some u := fun _ => ⟨_, rfl, hpre.cells (g := g) rfl⟩
                  have hone1 : ∀ y ∈ C0.take (q * 2), y.oneCell' = true := fun y hy => hone y (List.mem_of_mem_take hy)
                  have hone2 : ∀ y ∈ C0.drop (q * 2), y.oneCell' = true := fun y hy => hone y (List.mem_of_mem_drop hy)
                  have hl2' : (C0.drop (q * 2)).length = (q - q) * 2 := by rw [List.length_drop]; omega
                  have HN := Lib.hid hnbn; have HZN := Lib.hid hzn
                  have HBN := Lib.hid hbn
                  have HOLD := Lib.hid (fun W (hb : Below wn.heap.size wn W) jj u (h : (C0.drop (q * 2))[jj]? = some u) => (show W.cell? ((⟨g, q * 2, none⟩ : Addr).add jj) = some u by
                    rw [List.getElem?_drop] at h
                    have h1 := hown0.cells (g := g) rfl _ _ h
                    rw [add_at] at h1
                    have e : (⟨g, q * 2, none⟩ : Addr).add jj = ⟨g, q * 2 + jj, none⟩ := by unfold Addr.add; split <;> simp_all
                    rw [e]
                    exact (hb.cell (by exact hcp3)).trans h1))
                  have HCE := Lib.hid hCE
                  have hk3 : k < 1048576 := by omega
                  have hj8 : j < 8 := by omega
                  clear hnbn hzn hpre hbn hown0 hone hCE hxl
                  go_wp2_with (first
                    | (at_builtin; refine wpList_append_src rfl _ _ 25 rfl M 37 i1 _ 2 24 Tryz.underlying25 ji0 jz0 jz1 jz2 rfl (by decide) wn.heap.size 0 0 [] rfl hfresh (some ⟨g, 0, none⟩) q q (C0.take (q * 2)) rfl hl1 hsrc1 hone1 (by unfold maxLen; omega) (by omega) (by have := HZN.out; omega) ?_; intro g3 cap3 w3 ho3 hg3 hat3; simp only [Nat.zero_add, List.nil_append] at ho3; have hb3 : Below wn.heap.size wn w3 := HN.out.grown hg3 (by have := HZN.out; omega) (fun b e => by have := Option.some.inj (show some wn.heap.size = some b from e); omega); obtain ⟨l0, l1⟩ := HA9.out w3 (HBN.out.trans (hb3.mono HBN.out.size)); have hs3 := hb3.size; have hMs3 : M ≤ w3.heap.size := (by omega); have hg3l : wn.heap.size ≤ g3 := (by have h4 := HZN.out; rcases hat3 with e | e <;> omega); have hr3 := row_cap ho3; have hlen3 : q + 1 ≤ 4398046511104 := (by omega); clear hfresh hsrc1 hg3 hat3)
                    | (at_builtin; refine append_leg rfl _ _ rfl M q _ (C0.take (q * 2)) rfl ho3 a 0 rfl hlen3 hMs3 ?_; intro g4 cap4 w4 ho4 hg4 hat4; have hb4 : Below wn.heap.size wn w4 := hb3.grown hg4 hs3 (fun b e => by have := Option.some.inj (show some g3 = some b from e); omega); have hs4 := hb4.size; have hMs4 : M ≤ w4.heap.size := (by omega); have hg4l : wn.heap.size ≤ g4 := (by rcases hat4 with e | e; · { have := Option.some.inj (show some g3 = some g4 from e); omega }; · omega); clear ho3 hg4 hat4 l0 l1)
                    | (at_builtin; refine wpList_append_src rfl _ _ 25 rfl M 37 i1 _ 2 24 Tryz.underlying25 ji0 jz0 jz1 jz2 rfl (by decide) g4 (q + 1) cap4 _ rfl ho4 _ 0 _ (C0.drop (q * 2)) rfl (by simpa using hl2') (fun h => absurd h (Nat.lt_irrefl 0)) hone2 (by unfold maxLen; omega) (by omega) hMs4 ?_; intro gt capt wt hown hgt hatt; simp only [Nat.add_zero] at hown ⊢; have hbt : Below wl.heap.size wl wt := HBN.out.trans ((hb4.grown hgt hs4 (fun b e => by have := Option.some.inj (show some g4 = some b from e); omega)).mono HBN.out.size); clear ho4 hgt hatt))
                  have hTl := HTN.out
                  rw [bytes_eta, HLE2.out] at hTl
                  obtain ⟨len2, C, e4, e5⟩ : ∃ (len2 : Nat) (C : List Value), len2 = q + 1 ∧ C = C0.take (q * 2) ++ [Value.string a, Value.int .i64 0] ++ C0.drop (q * 2) := ⟨_, _, rfl, rfl⟩
                  rw [← e4, ← e5] at hown hTl
                  rw [← e4]
                  clear e4 e5 HTN HTN2 HOLD HCE hone1 hone2 hl1 hl2' hr3 hb3 hb4 hs3 hs4 hMs3 hMs4 hg3l hg4l ji0 jz0 jz1 jz2 hlen3
                  have hlt2 := hTl.lt
                  have hl2 := hTl.len
                  have r1 := hown.cells (g := gt) rfl _ _ hTl.amt
                  rw [add_at] at r1
                  have hgt := (hown.lt gt rfl)
                  have hfr : wt.frozen? ⟨gt, q * 2 + 1, none⟩ = false := by
                    rcases hown.2 with ⟨h', _⟩ | ⟨g', q', cur, h', _, hg, _⟩
                    · cases h'
                    · cases h'
                      unfold World.frozen?; rw [hg]; rfl
                  obtain ⟨_, l1⟩ := HA9.out _ hbt
                  have hlb : wk.heap.size < wt.heap.size := by have := HZX.out; have := hbt.size; omega
                  have HKP := Lib.hid (fun W (hb : Below wt.heap.size wt W) => (show W.cell? ⟨gt, q * 2 + 1, none⟩ = some (.int .i64 (numAt E (kl a))) ∧ W.cell? ⟨wk.heap.size, 1, none⟩ = some (.int .i64 x) ∧ W.frozen? ⟨gt, q * 2 + 1, none⟩ = false from
                    ⟨(hb.cell (by exact hgt.2)).trans r1, (hb.cell (by exact hlb)).trans l1, (hb.frozen (by exact hgt.2)).trans hfr⟩))
                  have HST := Lib.hid (fun s => (hown.stored (q * 2 + 1) (.int .i64 s)))
                  have HTL := Lib.hid hTl
                  have HBT := Lib.hid (Below.trans HRP2.out.bel (hbt.mono HRP2.out.bel.size))
                  have HGT := Lib.hid hgt
                  have HS0 := Lib.hid ((Below.refl wt.heap.size wt).drew)
                  have hq0 : (0 : Int) ≤ (q : Int) := by omega
                  have hq2 : (q : Int) < (len2 : Int) := by omega
                  have HLR2 := HLR
                  generalize hy : numAt E (kl a) = y at *
                  obtain ⟨s, hs⟩ : ∃ s, IntKind.i64.wrap (y + x) = s := ⟨_, rfl⟩
                  have hs64 : wrap64 (y + x) = s := by rw [← hs, IntWalk.i64_left]
                  rw [hs64] at HLR2
                  have HS64 := Lib.hid hs64
                  clear hown hTl hbt r1 hfr l1 hgt hlb hy hs64
                  go_wp2
                  refine wp_region_E (S := fun W => Below wt.heap.size wt W) (late := [10]) (by kernel_rfl) ?_
                  refine wpAnyE_take (i := 0) (v := ?_) rfl (by kernel_rfl) (by kernel_rfl) (by kernel_rfl) (by kernel_rfl) (by kernel_rfl) (fun _ _ _ h => h) (Or.inl ⟨by rfl, fun W hSw => ?_⟩) HS0.out ?_
                  rotate_left
                  · clear hSw; go_simp; try with_reducible rfl
                  try simp only [Act.put, List.setIfInBounds_toArray, List.set_cons_zero, List.set_cons_succ]
                  refine wpAnyE_take (i := 1) (v := ?_) rfl (by kernel_rfl) (by kernel_rfl) (by kernel_rfl) (by kernel_rfl) (by kernel_rfl) (fun _ _ _ h => h) (Or.inl ⟨by rfl, fun W hSw => ?_⟩) HS0.out ?_
                  rotate_left
                  · clear hSw; go_simp; try with_reducible rfl
                  try simp only [Act.put, List.setIfInBounds_toArray, List.set_cons_zero, List.set_cons_succ]
                  refine wpAnyE_take (i := 2) (v := ?_) rfl (by kernel_rfl) (by kernel_rfl) (by kernel_rfl) (by kernel_rfl) (by kernel_rfl) (fun _ _ _ h => h) (Or.inl ⟨by rfl, fun W hSw => ?_⟩) HS0.out ?_
                  rotate_left
                  · clear hSw; go_simp; try with_reducible rfl
                  try simp only [Act.put, List.setIfInBounds_toArray, List.set_cons_zero, List.set_cons_succ]
                  refine wpAnyE_take (i := 3) (v := ?_) rfl (by kernel_rfl) (by kernel_rfl) (by kernel_rfl) (by kernel_rfl) (by kernel_rfl) (fun _ _ _ h => h) (Or.inl ⟨by rfl, fun W hSw => ?_⟩) HS0.out ?_
                  rotate_left
                  · clear hSw; go_simp; try with_reducible rfl
                  try simp only [Act.put, List.setIfInBounds_toArray, List.set_cons_zero, List.set_cons_succ]
                  refine wpAnyE_take (i := 4) (v := ?_) rfl (by kernel_rfl) (by kernel_rfl) (by kernel_rfl) (by kernel_rfl) (by kernel_rfl) (fun _ _ _ h => h) (Or.inl ⟨by rfl, fun W hSw => ?_⟩) HS0.out ?_
                  rotate_left
                  · obtain ⟨q1, q2, q3⟩ := HKP.out W hSw; clear hSw; go_simp; with_reducible rfl
                  try simp only [Act.put, List.setIfInBounds_toArray, List.set_cons_zero, List.set_cons_succ]
                  refine wpAnyE_take (i := 5) (v := ?_) rfl (by kernel_rfl) (by kernel_rfl) (by kernel_rfl) (by kernel_rfl) (by kernel_rfl) (fun _ _ _ h => h) (Or.inl ⟨by rfl, fun W hSw => ?_⟩) HS0.out ?_
                  rotate_left
                  · clear hSw; go_simp; try with_reducible rfl
                  try simp only [Act.put, List.setIfInBounds_toArray, List.set_cons_zero, List.set_cons_succ]
                  refine wpAnyE_take (i := 6) (v := ?_) rfl (by kernel_rfl) (by kernel_rfl) (by kernel_rfl) (by kernel_rfl) (by kernel_rfl) (fun _ _ _ h => h) (Or.inl ⟨by rfl, fun W hSw => ?_⟩) HS0.out ?_
                  rotate_left
                  · obtain ⟨q1, q2, q3⟩ := HKP.out W hSw; clear hSw; go_simp; with_reducible rfl
                  try simp only [Act.put, List.setIfInBounds_toArray, List.set_cons_zero, List.set_cons_succ]
                  refine wpAnyE_take (i := 7) (v := ?_) rfl (by kernel_rfl) (by kernel_rfl) (by kernel_rfl) (by kernel_rfl) (by kernel_rfl) (fun _ _ _ h => h) (Or.inl ⟨by rfl, fun W hSw => ?_⟩) HS0.out ?_
                  rotate_left
                  · clear hSw; go_simp; try with_reducible rfl
                  try simp only [Act.put, List.setIfInBounds_toArray, List.set_cons_zero, List.set_cons_succ]
                  refine wpAnyE_one (i := 8) (by kernel_rfl) rfl (fun K hK => ?_)
                  go_simp
                  refine hK.out _ _ (.inr HS0.out) ?_
                  clear hK K
                  try simp only [Act.put, List.setIfInBounds_toArray, List.set_cons_zero, List.set_cons_succ]
                  refine wpAnyE_one (i := 9) (by kernel_rfl) rfl (fun K hK => ?_)
                  go_simp
                  refine hK.out _ _ (.inr HS0.out) ?_
                  clear hK K
                  try simp only [Act.put, List.setIfInBounds_toArray, List.set_cons_zero, List.set_cons_succ]
                  obtain ⟨q1, q2, q3⟩ := HKP.out _ HS0.out
                  refine wpAnyE_one (i := 10) (by kernel_rfl) rfl (fun K hK => ?_)
                  go_simp
                  refine hK.out _ _ (.inl rfl) ?_
                  clear hK K q1 q2 q3
                  refine wpAnyE_done (by kernel_rfl) ?_ _
                  obtain ⟨hst1, hst2⟩ := HST.out s
                  have hown2 : (wt.setCell ⟨gt, q * 2 + 1, none⟩ (.int .i64 s)).drew.ownsRow M 37 2 (.slice (some ⟨gt, 0, none⟩) len2 capt) len2 (C.set (q * 2 + 1) (.int .i64 s)) := ownsRow_of_block hst1 fun _ _ => rfl
                  have hb2 : Below w.heap.size w (wt.setCell ⟨gt, q * 2 + 1, none⟩ (.int .i64 s)).drew := (HBT.out.grown hst2 HBT.out.size (fun b e => by obtain rfl := Option.some.inj (show some gt = some b from e); have := HGT.out.1; have := HM.out; omega)).drew
                  clear hst1 hst2
                  generalize (wt.setCell ⟨gt, q * 2 + 1, none⟩ (.int .i64 s)).drew = wz at *
                  have HOW := Lib.hid hown2
                  have HB2 := Lib.hid hb2
                  have r2 : wz.cell? ⟨gt, q * 2 + 1, none⟩ = some (.int .i64 s) := by
                    have := hown2.cells (g := gt) rfl (q * 2 + 1) (.int .i64 s) (by
                      have := List.getElem?_eq_some_iff.1 HTL.out.amt
                      obtain ⟨hh, _⟩ := this
                      rw [List.getElem?_set_self hh])
                    rwa [add_at] at this
                  clear hown2 hb2
                  cases e1 : decide ((4611686018427387904 : Int) < s) with
                  | true =>
                    have HF := Lib.hid (HSN.out (by rw [HSD.out, HLR2.out]; simp only [e1]; rfl))
                    go_wp2
                    go_ret2
                    exact ⟨HB2.out, .inr (.inr ⟨by rw [HF.out], rfl⟩)⟩
                  | false =>
                  cases e2 : decide (s < -4611686018427387904) with
                  | true =>
                    have HF := Lib.hid (HSN.out (by rw [HSD.out, HLR2.out]; simp only [e1, e2]; rfl))
                    go_wp2
                    go_ret2
                    exact ⟨HB2.out, .inr (.inr ⟨by rw [HF.out], rfl⟩)⟩
                  | false =>
                    have HF := Lib.hid (show legsR D (ps k).lg (j + 1) = some (E.put (kl a) (.lit (.int .i64 s))) by rw [HSD.out, HLR2.out]; simp only [e1, e2]; rfl)
                    have HFN := HTL.out.fin s
                    have HRN := Lib.hid (show Rr w wz gt capt (E.put (kl a) (.lit (.int .i64 s))) from ⟨by rw [HFN.1, HFN.2, ← HM.out]; exact HOW.out, HB2.out⟩)
                    have hnl := HFN.1
                    have HNL := Lib.hid hnl
                    clear HFN hnl
                    go_wp2
                    exact ⟨⟨j + 1, gt, capt, E.put (kl a) (.lit (.int .i64 s)), by go_num, by rw [HNL.out], by omega, by have := HNL.out; have := HLE2.out; omega, Lib.hid ⟨HRN.out, HF.out⟩⟩, by simp [intOf]; omega⟩
                · have hcq2 : (q : Int) < (cap : Int) := by have := (row_cap (HRP2.out.below (below_drewN HB.out 0)).own).1; have := HLE2.out; omega
                  have hown0 := (HRP2.out.below hbn).own
                  rw [HLE2.out] at hown0
                  rw [← HM.out] at hown0
                  obtain ⟨hcp1, hcp2, hcp3⟩ := row_cap hown0
                  have s1 : (0 : Int) ≤ (q : Int) := by omega
                  have s2 : (q : Int) ≤ (cap : Int) := by omega
                  have s3 : (q : Int) ≤ (q : Int) := by omega
                  have s4 : (q : Int) ≤ (cap : Int) := by omega
                  have hMn : M ≤ wn.heap.size := by omega
                  have hxl : (legCells E (sortedKeys E)).length = q * 2 := by rw [legCells_length, HLE2.out]
                  have hone := legCells_one E (sortedKeys E)
                  have HTN2 := HTN
                  generalize hCE : legCells E (sortedKeys E) = C0 at *
                  obtain ⟨i1, ji0, jz0, jz1, jz2⟩ := info37'
                  have hnbn := Below.new wn (.cells #[] 37)
                  have hzn : (wn.alloc (.cells #[] 37)).heap.size = wn.heap.size + 1 := by simp
                  have hfresh : (wn.alloc (.cells #[] 37)).ownsRow M 37 2 (.slice (some ⟨wn.heap.size, 0, none⟩) 0 0) 0 [] := ⟨rfl, .inr ⟨_, 0, #[], rfl, hMn, heap_alloc_new wn _, Nat.le_refl _, Nat.zero_le _, rfl, rfl⟩⟩
                  have hpre := (ownsRow_prefix (k := q) hown0 (by omega)).alloc (.cells #[] 37)
                  have hl1 : (C0.take (q * 2)).length = q * 2 := by rw [List.length_take]; omega
                  have hsrc1 : 0 < q → ∃ ad, some (⟨g, 0, none⟩ : Addr) = some ad ∧ ∀ jj u, (C0.take (q * 2))[jj]? = some u → (wn.alloc (.cells #[] 37)).cell? (ad.add jj) = some u := fun _ => ⟨_, rfl, hpre.cells (g := g) rfl⟩
                  have hone1 : ∀ y ∈ C0.take (q * 2), y.oneCell' = true := fun y hy => hone y (List.mem_of_mem_take hy)
                  have hone2 : ∀ y ∈ C0.drop (q * 2), y.oneCell' = true := fun y hy => hone y (List.mem_of_mem_drop hy)
                  have hl2' : (C0.drop (q * 2)).length = (q - q) * 2 := by rw [List.length_drop]; omega
                  have HN := Lib.hid hnbn; have HZN := Lib.hid hzn
                  have HBN := Lib.hid hbn
                  have HOLD := Lib.hid (fun W (hb : Below wn.heap.size wn W) jj u (h : (C0.drop (q * 2))[jj]? = some u) => (show W.cell? ((⟨g, q * 2, none⟩ : Addr).add jj) = some u by
                    rw [List.getElem?_drop] at h
                    have h1 := hown0.cells (g := g) rfl _ _ h
                    rw [add_at] at h1
                    have e : (⟨g, q * 2, none⟩ : Addr).add jj = ⟨g, q * 2 + jj, none⟩ := by unfold Addr.add; split <;> simp_all
                    rw [e]
                    exact (hb.cell (by exact hcp3)).trans h1))
                  have HCE := Lib.hid hCE
                  have hk3 : k < 1048576 := by omega
                  have hj8 : j < 8 := by omega
                  clear hnbn hzn hpre hbn hown0 hone hCE hxl
                  go_wp2_with (first
                    | (at_builtin; refine wpList_append_src rfl _ _ 25 rfl M 37 i1 _ 2 24 Tryz.underlying25 ji0 jz0 jz1 jz2 rfl (by decide) wn.heap.size 0 0 [] rfl hfresh (some ⟨g, 0, none⟩) q cap (C0.take (q * 2)) rfl hl1 hsrc1 hone1 (by unfold maxLen; omega) (by omega) (by have := HZN.out; omega) ?_; intro g3 cap3 w3 ho3 hg3 hat3; simp only [Nat.zero_add, List.nil_append] at ho3; have hb3 : Below wn.heap.size wn w3 := HN.out.grown hg3 (by have := HZN.out; omega) (fun b e => by have := Option.some.inj (show some wn.heap.size = some b from e); omega); obtain ⟨l0, l1⟩ := HA9.out w3 (HBN.out.trans (hb3.mono HBN.out.size)); have hs3 := hb3.size; have hMs3 : M ≤ w3.heap.size := (by omega); have hg3l : wn.heap.size ≤ g3 := (by have h4 := HZN.out; rcases hat3 with e | e <;> omega); have hr3 := row_cap ho3; have hlen3 : q + 1 ≤ 4398046511104 := (by omega); clear hfresh hsrc1 hg3 hat3)
                    | (at_builtin; refine append_leg rfl _ _ rfl M q _ (C0.take (q * 2)) rfl ho3 a 0 rfl hlen3 hMs3 ?_; intro g4 cap4 w4 ho4 hg4 hat4; have hb4 : Below wn.heap.size wn w4 := hb3.grown hg4 hs3 (fun b e => by have := Option.some.inj (show some g3 = some b from e); omega); have hs4 := hb4.size; have hMs4 : M ≤ w4.heap.size := (by omega); have hg4l : wn.heap.size ≤ g4 := (by rcases hat4 with e | e; · { have := Option.some.inj (show some g3 = some g4 from e); omega }; · omega); clear ho3 hg4 hat4 l0 l1)
                    | (at_builtin; refine wpList_append_src rfl _ _ 25 rfl M 37 i1 _ 2 24 Tryz.underlying25 ji0 jz0 jz1 jz2 rfl (by decide) g4 (q + 1) cap4 _ rfl ho4 _ 0 _ (C0.drop (q * 2)) rfl (by simpa using hl2') (fun h => absurd h (Nat.lt_irrefl 0)) hone2 (by unfold maxLen; omega) (by omega) hMs4 ?_; intro gt capt wt hown hgt hatt; simp only [Nat.add_zero] at hown ⊢; have hbt : Below wl.heap.size wl wt := HBN.out.trans ((hb4.grown hgt hs4 (fun b e => by have := Option.some.inj (show some g4 = some b from e); omega)).mono HBN.out.size); clear ho4 hgt hatt))
                  have hTl := HTN.out
                  rw [bytes_eta, HLE2.out] at hTl
                  obtain ⟨len2, C, e4, e5⟩ : ∃ (len2 : Nat) (C : List Value), len2 = q + 1 ∧ C = C0.take (q * 2) ++ [Value.string a, Value.int .i64 0] ++ C0.drop (q * 2) := ⟨_, _, rfl, rfl⟩
                  rw [← e4, ← e5] at hown hTl
                  rw [← e4]
                  clear e4 e5 HTN HTN2 HOLD HCE hone1 hone2 hl1 hl2' hr3 hb3 hb4 hs3 hs4 hMs3 hMs4 hg3l hg4l ji0 jz0 jz1 jz2 hlen3
                  have hlt2 := hTl.lt
                  have hl2 := hTl.len
                  have r1 := hown.cells (g := gt) rfl _ _ hTl.amt
                  rw [add_at] at r1
                  have hgt := (hown.lt gt rfl)
                  have hfr : wt.frozen? ⟨gt, q * 2 + 1, none⟩ = false := by
                    rcases hown.2 with ⟨h', _⟩ | ⟨g', cap', cur, h', _, hg, _⟩
                    · cases h'
                    · cases h'
                      unfold World.frozen?; rw [hg]; rfl
                  obtain ⟨_, l1⟩ := HA9.out _ hbt
                  have hlb : wk.heap.size < wt.heap.size := by have := HZX.out; have := hbt.size; omega
                  have HKP := Lib.hid (fun W (hb : Below wt.heap.size wt W) => (show W.cell? ⟨gt, q * 2 + 1, none⟩ = some (.int .i64 (numAt E (kl a))) ∧ W.cell? ⟨wk.heap.size, 1, none⟩ = some (.int .i64 x) ∧ W.frozen? ⟨gt, q * 2 + 1, none⟩ = false from
                    ⟨(hb.cell (by exact hgt.2)).trans r1, (hb.cell (by exact hlb)).trans l1, (hb.frozen (by exact hgt.2)).trans hfr⟩))
                  have HST := Lib.hid (fun s => (hown.stored (q * 2 + 1) (.int .i64 s)))
                  have HTL := Lib.hid hTl
                  have HBT := Lib.hid (Below.trans HRP2.out.bel (hbt.mono HRP2.out.bel.size))
                  have HGT := Lib.hid hgt
                  have HS0 := Lib.hid ((Below.refl wt.heap.size wt).drew)
                  have hq0 : (0 : Int) ≤ (q : Int) := by omega
                  have hq2 : (q : Int) < (len2 : Int) := by omega
                  have HLR2 := HLR
                  generalize hy : numAt E (kl a) = y at *
                  obtain ⟨s, hs⟩ : ∃ s, IntKind.i64.wrap (y + x) = s := ⟨_, rfl⟩
                  have hs64 : wrap64 (y + x) = s := by rw [← hs, IntWalk.i64_left]
                  rw [hs64] at HLR2
                  have HS64 := Lib.hid hs64
                  clear hown hTl hbt r1 hfr l1 hgt hlb hy hs64
                  go_wp2
                  refine wp_region_E (S := fun W => Below wt.heap.size wt W) (late := [10]) (by kernel_rfl) ?_
                  refine wpAnyE_take (i := 0) (v := ?_) rfl (by kernel_rfl) (by kernel_rfl) (by kernel_rfl) (by kernel_rfl) (by kernel_rfl) (fun _ _ _ h => h) (Or.inl ⟨by rfl, fun W hSw => ?_⟩) HS0.out ?_
                  rotate_left
                  · clear hSw; go_simp; try with_reducible rfl
                  try simp only [Act.put, List.setIfInBounds_toArray, List.set_cons_zero, List.set_cons_succ]
                  refine wpAnyE_take (i := 1) (v := ?_) rfl (by kernel_rfl) (by kernel_rfl) (by kernel_rfl) (by kernel_rfl) (by kernel_rfl) (fun _ _ _ h => h) (Or.inl ⟨by rfl, fun W hSw => ?_⟩) HS0.out ?_
                  rotate_left
                  · clear hSw; go_simp; try with_reducible rfl
                  try simp only [Act.put, List.setIfInBounds_toArray, List.set_cons_zero, List.set_cons_succ]
                  refine wpAnyE_take (i := 2) (v := ?_) rfl (by kernel_rfl) (by kernel_rfl) (by kernel_rfl) (by kernel_rfl) (by kernel_rfl) (fun _ _ _ h => h) (Or.inl ⟨by rfl, fun W hSw => ?_⟩) HS0.out ?_
                  rotate_left
                  · clear hSw; go_simp; try with_reducible rfl
                  try simp only [Act.put, List.setIfInBounds_toArray, List.set_cons_zero, List.set_cons_succ]
                  refine wpAnyE_take (i := 3) (v := ?_) rfl (by kernel_rfl) (by kernel_rfl) (by kernel_rfl) (by kernel_rfl) (by kernel_rfl) (fun _ _ _ h => h) (Or.inl ⟨by rfl, fun W hSw => ?_⟩) HS0.out ?_
                  rotate_left
                  · clear hSw; go_simp; try with_reducible rfl
                  try simp only [Act.put, List.setIfInBounds_toArray, List.set_cons_zero, List.set_cons_succ]
                  refine wpAnyE_take (i := 4) (v := ?_) rfl (by kernel_rfl) (by kernel_rfl) (by kernel_rfl) (by kernel_rfl) (by kernel_rfl) (fun _ _ _ h => h) (Or.inl ⟨by rfl, fun W hSw => ?_⟩) HS0.out ?_
                  rotate_left
                  · obtain ⟨q1, q2, q3⟩ := HKP.out W hSw; clear hSw; go_simp; with_reducible rfl
                  try simp only [Act.put, List.setIfInBounds_toArray, List.set_cons_zero, List.set_cons_succ]
                  refine wpAnyE_take (i := 5) (v := ?_) rfl (by kernel_rfl) (by kernel_rfl) (by kernel_rfl) (by kernel_rfl) (by kernel_rfl) (fun _ _ _ h => h) (Or.inl ⟨by rfl, fun W hSw => ?_⟩) HS0.out ?_
                  rotate_left
                  · clear hSw; go_simp; try with_reducible rfl
                  try simp only [Act.put, List.setIfInBounds_toArray, List.set_cons_zero, List.set_cons_succ]
                  refine wpAnyE_take (i := 6) (v := ?_) rfl (by kernel_rfl) (by kernel_rfl) (by kernel_rfl) (by kernel_rfl) (by kernel_rfl) (fun _ _ _ h => h) (Or.inl ⟨by rfl, fun W hSw => ?_⟩) HS0.out ?_
                  rotate_left
                  · obtain ⟨q1, q2, q3⟩ := HKP.out W hSw; clear hSw; go_simp; with_reducible rfl
                  try simp only [Act.put, List.setIfInBounds_toArray, List.set_cons_zero, List.set_cons_succ]
                  refine wpAnyE_take (i := 7) (v := ?_) rfl (by kernel_rfl) (by kernel_rfl) (by kernel_rfl) (by kernel_rfl) (by kernel_rfl) (fun _ _ _ h => h) (Or.inl ⟨by rfl, fun W hSw => ?_⟩) HS0.out ?_
                  rotate_left
                  · clear hSw; go_simp; try with_reducible rfl
                  try simp only [Act.put, List.setIfInBounds_toArray, List.set_cons_zero, List.set_cons_succ]
                  refine wpAnyE_one (i := 8) (by kernel_rfl) rfl (fun K hK => ?_)
                  go_simp
                  refine hK.out _ _ (.inr HS0.out) ?_
                  clear hK K
                  try simp only [Act.put, List.setIfInBounds_toArray, List.set_cons_zero, List.set_cons_succ]
                  refine wpAnyE_one (i := 9) (by kernel_rfl) rfl (fun K hK => ?_)
                  go_simp
                  refine hK.out _ _ (.inr HS0.out) ?_
                  clear hK K
                  try simp only [Act.put, List.setIfInBounds_toArray, List.set_cons_zero, List.set_cons_succ]
                  obtain ⟨q1, q2, q3⟩ := HKP.out _ HS0.out
                  refine wpAnyE_one (i := 10) (by kernel_rfl) rfl (fun K hK => ?_)
                  go_simp
                  refine hK.out _ _ (.inl rfl) ?_
                  clear hK K q1 q2 q3
                  refine wpAnyE_done (by kernel_rfl) ?_ _
                  obtain ⟨hst1, hst2⟩ := HST.out s
                  have hown2 : (wt.setCell ⟨gt, q * 2 + 1, none⟩ (.int .i64 s)).drew.ownsRow M 37 2 (.slice (some ⟨gt, 0, none⟩) len2 capt) len2 (C.set (q * 2 + 1) (.int .i64 s)) := ownsRow_of_block hst1 fun _ _ => rfl
                  have hb2 : Below w.heap.size w (wt.setCell ⟨gt, q * 2 + 1, none⟩ (.int .i64 s)).drew := (HBT.out.grown hst2 HBT.out.size (fun b e => by obtain rfl := Option.some.inj (show some gt = some b from e); have := HGT.out.1; have := HM.out; omega)).drew
                  clear hst1 hst2
                  generalize (wt.setCell ⟨gt, q * 2 + 1, none⟩ (.int .i64 s)).drew = wz at *
                  have HOW := Lib.hid hown2
                  have HB2 := Lib.hid hb2
                  have r2 : wz.cell? ⟨gt, q * 2 + 1, none⟩ = some (.int .i64 s) := by
                    have := hown2.cells (g := gt) rfl (q * 2 + 1) (.int .i64 s) (by
                      have := List.getElem?_eq_some_iff.1 HTL.out.amt
                      obtain ⟨hh, _⟩ := this
                      rw [List.getElem?_set_self hh])
                    rwa [add_at] at this
                  clear hown2 hb2
                  cases e1 : decide ((4611686018427387904 : Int) < s) with
                  | true =>
                    have HF := Lib.hid (HSN.out (by rw [HSD.out, HLR2.out]; simp only [e1]; rfl))
                    go_wp2
                    go_ret2
                    exact ⟨HB2.out, .inr (.inr ⟨by rw [HF.out], rfl⟩)⟩
                  | false =>
                  cases e2 : decide (s < -4611686018427387904) with
                  | true =>
                    have HF := Lib.hid (HSN.out (by rw [HSD.out, HLR2.out]; simp only [e1, e2]; rfl))
                    go_wp2
                    go_ret2
                    exact ⟨HB2.out, .inr (.inr ⟨by rw [HF.out], rfl⟩)⟩
                  | false =>
                    have HF := Lib.hid (show legsR D (ps k).lg (j + 1) = some (E.put (kl a) (.lit (.int .i64 s))) by rw [HSD.out, HLR2.out]; simp only [e1, e2]; rfl)
                    have HFN := HTL.out.fin s
                    have HRN := Lib.hid (show Rr w wz gt capt (E.put (kl a) (.lit (.int .i64 s))) from ⟨by rw [HFN.1, HFN.2, ← HM.out]; exact HOW.out, HB2.out⟩)
                    have hnl := HFN.1
                    have HNL := Lib.hid hnl
                    clear HFN hnl
                    go_wp2
                    exact ⟨⟨j + 1, gt, capt, E.put (kl a) (.lit (.int .i64 s)), by go_num, by rw [HNL.out], by omega, by have := HNL.out; have := HLE2.out; omega, Lib.hid ⟨HRN.out, HF.out⟩⟩, by simp [intOf]; omega⟩
          · obtain rfl : j = (ps k).n := by omega
            have HFI := Lib.hid (HFS.out E hy.out.2)
            have HRI := Lib.hid hy.out.1
            clear hy
            go_wp2_with fail
            go_roundw
            case rel => exact ⟨k + 1, g, cap, E, by go_num, rfl, by omega, Lib.hid ⟨HRI.out, HFI.out⟩⟩
            case measure => simp [intOf]; omega
    · obtain rfl : k = n := by omega
      have HRD := Lib.hid (show rr = (0, D) from HRR.out.symm.trans hh.out.2)
      have HX := Lib.hid hrp
      clear hh hrp hw
      go_wp2
      go_ret2
      exact ⟨HX.out.bel, .inl ⟨by rw [HRD.out], _, rfl, by rw [HRD.out]; exact HX.out.own⟩⟩
end Go.Proofs.YtodekiimkbejnaaGreatDoor
