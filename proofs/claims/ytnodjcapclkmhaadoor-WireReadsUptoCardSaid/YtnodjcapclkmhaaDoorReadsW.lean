/- WireReads, walked: over any texts, in whatever order of calls, the law answers true. -/
import Derived.Test.YtnodjcapclkmhaaDoorGetL
import Derived.Test.YtnodjcapclkmhaaDoorFixed
import Derived.IntWalk
namespace Go.Proofs.YtnodjcapclkmhaaDoor
open Go.RowKit

/-- Where the two Readers, the two places and the cell of the lists lie. -/
structure Pl (B ga gb gp gq gl base : Nat) : Prop where
  lo : B ≤ ga ∧ B ≤ gb ∧ B ≤ gp ∧ B ≤ gq ∧ B ≤ gl
  hi : ga < base ∧ gb < base ∧ gp < base ∧ gq < base ∧ gl < base
  a : ga ≠ gb ∧ ga ≠ gp ∧ ga ≠ gq ∧ ga ≠ gl
  b : gb ≠ gp ∧ gb ≠ gq ∧ gb ≠ gl
  p : gp ≠ gq ∧ gp ≠ gl
  q : gq ≠ gl
theorem Pl.swap {B ga gb gp gq gl base : Nat} (h : Pl B ga gb gp gq gl base) : Pl B gb ga gq gp gl base :=
  ⟨⟨h.lo.2.1, h.lo.1, h.lo.2.2.2.1, h.lo.2.2.1, h.lo.2.2.2.2⟩, ⟨h.hi.2.1, h.hi.1, h.hi.2.2.2.1, h.hi.2.2.1, h.hi.2.2.2.2⟩, ⟨h.a.1.symm, h.b.2.1, h.b.1, h.b.2.2⟩, ⟨h.a.2.2.1, h.a.2.1, h.a.2.2.2⟩, ⟨h.p.1.symm, h.q⟩, h.p.2⟩
/-- Between the rounds. -/
structure Rs (B ga gb gp gq gl base : Nat) (s t : ByteArray) (M k : Nat) (w wr : World) (p q : Nat) : Prop where
  ra : Rdr wr ga s p
  rb : Rdr wr gb t q
  cp : wr.heap[gp]? = some (.cells #[.int .i64 p] 3 (0, 0))
  cq : wr.heap[gq]? = some (.cells #[.int .i64 q] 3 (0, 0))
  ls : ∃ v n V L, wr.heap[gl]? = some (.cells #[v] 41 (0, 0)) ∧ Lists wr base v n V L ∧ n ≤ k ∧ ∀ i, i < n → (L i).length ≤ M
  le : p ≤ s.size ∧ q ≤ t.size
  bel : Below B w wr
  big : base ≤ wr.heap.size
section
variable {B ga gb gp gq gl base : Nat} {s t : ByteArray} {M k p q : Nat} {w wr w' : World}
theorem Rs.swap (h : Rs B ga gb gp gq gl base s t M k w wr p q) : Rs B gb ga gq gp gl base t s M k w wr q p :=
  ⟨h.rb, h.ra, h.cq, h.cp, h.ls, ⟨h.le.2, h.le.1⟩, h.bel, h.big⟩
theorem Rs.below (P : Pl B ga gb gp gq gl base) (h : Rs B ga gb gp gq gl base s t M k w wr p q) (hb : Below wr.heap.size wr w') : Rs B ga gb gp gq gl base s t M k w w' p q := by
  obtain ⟨v, n, V, L, h1, h2, h3, h4⟩ := h.ls
  have hi := P.hi
  have hz := h.big
  have lo := P.lo
  exact ⟨h.ra.below hb, h.rb.below hb, (hb.block gp (by omega)).trans h.cp, (hb.block gq (by omega)).trans h.cq, ⟨v, n, V, L, (hb.block gl (by omega)).trans h1, h2.below hb, h3, h4⟩, h.le, h.bel.trans (hb.mono (by omega)), Nat.le_trans hz hb.size⟩
/-- Behind get, and the store of the place. -/
theorem Rs.step (P : Pl B ga gb gp gq gl base) (h : Rs B ga gb gp gq gl base s t M k w wr p q) {v : Value} {n : Nat} {V : Nat → Value} {L : Nat → List ByteArray} (hL : Lists wr base v n V L) (hn : n ≤ k) {e : Ending} (g : GlPost base ga gl s n M v wr e w') :
    ∃ p' : Nat, e = .returned (.tuple #[.int .i64 p', .bool true]) ∧ p' ≤ s.size ∧ w'.cell? ⟨gp, 0, none⟩ = some (.int .i64 p) ∧ w'.frozen? ⟨gp, 0, none⟩ = false ∧ wr.heap.size ≤ w'.heap.size ∧ (∀ j cs, base ≤ j → wr.heap[j]? = some (.cells cs 30 (0, 0)) → (w'.setCell ⟨gp, 0, none⟩ (.int .i64 p')).heap[j]? = some (.cells cs 30 (0, 0))) ∧
      Rs B ga gb gp gq gl base s t M (k + 1) w (w'.setCell ⟨gp, 0, none⟩ (.int .i64 p')) p' q := by
  obtain ⟨p', n', v', V', L', he, hp', hR, hC, hL', hn', hM', hc⟩ := g
  have hi := P.hi
  have hz := h.big
  have lo := P.lo
  obtain ⟨a1, a2, a3, a4⟩ := P.a
  obtain ⟨b1, b2, b3⟩ := P.b
  obtain ⟨c1, c2⟩ := P.p
  have c3 := P.q
  have hv : ∀ j, j < base → some j ≠ v.ownBlock := fun j hj e => by have := (hL.lt.1 j e.symm).1; omega
  have kb := hc.block gb (by omega) a1.symm b3 (hv gb hi.2.1)
  have kp := hc.block gp (by omega) a2.symm c2 (hv gp hi.2.2.1)
  have kq := hc.block gq (by omega) a3.symm c3 (hv gq hi.2.2.2.1)
  have hcp := kp.trans h.cp
  have hst : ∀ j, j ≠ gp → (w'.setCell ⟨gp, 0, none⟩ (.int .i64 p')).heap[j]? = w'.heap[j]? := fun j hj => Below.heap_setCell w' ⟨gp, 0, none⟩ _ j hj
  have hg : w'.grownBy (w'.setCell ⟨gp, 0, none⟩ (.int .i64 p')) (some gp) := setCell_grown w' gp 0 _
  refine ⟨p', he, hp', by unfold World.cell?; rw [hcp]; rfl, by unfold World.frozen?; rw [hcp]; rfl, hc.size, fun j cs hj hjc => ?_, ?_⟩
  · have hjl : j < wr.heap.size := by
      rcases Nat.lt_or_ge j wr.heap.size with h | h
      · exact h
      · rw [Array.getElem?_eq_none h] at hjc; cases hjc
    rw [hst j (by omega)]
    exact (hc.block j hjl (by omega) (by omega) (fun e => (hL.other hjc (by decide) (by decide)).1 e.symm)).trans hjc
  · refine ⟨(hst ga a2).trans hR, ((hst gb b1).trans kb).trans h.rb, ?_, ((hst gq c1.symm).trans kq).trans h.cq, ⟨v', n', V', L', (hst gl c2.symm).trans hC, hL'.grown hg (.inr (hL'.other hcp (by decide) (by decide)).1) (fun i hi => .inr ((hL'.other hcp (by decide) (by decide)).2 i hi)), by omega, hM'⟩, ⟨hp', h.le.2⟩, ?_, ?_⟩
    · show (w'.heap.modify gp _)[gp]? = _
      rw [Array.getElem?_modify, if_pos rfl, hcp]
      rfl
    · exact (h.bel.trans (hc.below (by omega) lo.1 lo.2.2.2.2 (fun j e => by have := (hL.lt.1 j e).1; omega))).setCell (show B ≤ gp by omega) _
    · have := hc.size
      simp [World.setCell]; omega
end

theorem rs_start (w : World) (s t : ByteArray) (M : Nat) :
    Pl w.heap.size w.heap.size (w.heap.size + 1) (w.heap.size + 1 + 1) (w.heap.size + 1 + 1 + 1) (w.heap.size + 1 + 1 + 1 + 1) (w.heap.size + 5) ∧
    Rs w.heap.size w.heap.size (w.heap.size + 1) (w.heap.size + 1 + 1) (w.heap.size + 1 + 1 + 1) (w.heap.size + 1 + 1 + 1 + 1) (w.heap.size + 5) s t M 0 w
      (((((w.alloc (.cells #[.string s, .int .i64 0] 85)).alloc (.cells #[.string t, .int .i64 0] 85)).alloc (.cells #[.int .i64 0] 3)).alloc (.cells #[.int .i64 0] 3)).alloc (.cells #[.slice none 0 0] 41)) 0 0 := by
  refine ⟨⟨by omega, by omega, by omega, by omega, by omega, by omega⟩, ?_⟩
  have r0 := new_rdr w s
  have z0 : (w.alloc (.cells #[.string s, .int .i64 0] 85)).heap.size = w.heap.size + 1 := by simp
  have b0 := Below.new w (.cells #[.string s, .int .i64 0] 85)
  generalize w.alloc (.cells #[.string s, .int .i64 0] 85) = w1 at *
  have r1 := new_rdr w1 t
  have z1 : (w1.alloc (.cells #[.string t, .int .i64 0] 85)).heap.size = w.heap.size + 1 + 1 := by simp; omega
  have b1 := Below.new w1 (.cells #[.string t, .int .i64 0] 85)
  rw [z0] at r1
  replace r0 := r0.below b1
  generalize w1.alloc (.cells #[.string t, .int .i64 0] 85) = w2 at *
  have r2 := heap_alloc_new w2 (.cells #[.int .i64 0] 3)
  have z2 : (w2.alloc (.cells #[.int .i64 0] 3)).heap.size = w.heap.size + 1 + 1 + 1 := by simp; omega
  have b2 := Below.new w2 (.cells #[.int .i64 0] 3)
  rw [z1] at r2
  replace r0 := r0.below b2
  replace r1 := r1.below b2
  generalize w2.alloc (.cells #[.int .i64 0] 3) = w3 at *
  have r3 := heap_alloc_new w3 (.cells #[.int .i64 0] 3)
  have z3 : (w3.alloc (.cells #[.int .i64 0] 3)).heap.size = w.heap.size + 1 + 1 + 1 + 1 := by simp; omega
  have b3 := Below.new w3 (.cells #[.int .i64 0] 3)
  rw [z2] at r3
  replace r0 := r0.below b3
  replace r1 := r1.below b3
  replace r2 := (b3.block _ (by omega)).trans r2
  generalize w3.alloc (.cells #[.int .i64 0] 3) = w4 at *
  have r4 := heap_alloc_new w4 (.cells #[.slice none 0 0] 41)
  have z4 : (w4.alloc (.cells #[.slice none 0 0] 41)).heap.size = w.heap.size + 5 := by simp; omega
  have b4 := Below.new w4 (.cells #[.slice none 0 0] 41)
  rw [z3] at r4
  have hb : Below w.heap.size w (w4.alloc (.cells #[.slice none 0 0] 41)) := (((b0.trans (b1.mono (by omega))).trans (b2.mono (by omega))).trans (b3.mono (by omega))).trans (b4.mono (by omega))
  exact ⟨r0.below b4, r1.below b4, (b4.block _ (by omega)).trans r2, (b4.block _ (by omega)).trans r3, ⟨_, 0, (fun _ => .slice none 0 0), (fun _ => []), r4, Lists.none _ _ _ _, Nat.le_refl _, fun i hi => absurd hi (Nat.not_lt_zero _)⟩, ⟨Nat.zero_le _, Nat.zero_le _⟩, hb, Nat.le_of_eq z4.symm⟩

set_option maxRecDepth 100000 in
set_option maxHeartbeats 4000000 in
theorem reads_walk (Bf : Nat → Addr) (s t : ByteArray) (A : Option Addr) (n c : Nat) (ops : Nat → OpV) (w : World) (hE : Env w Bf) (hO : Ops w A n ops) (hI : ∀ i, i < n → (ops i).In) (hn : n ≤ 2000000) (hs : s.size ≤ 2000000) (ht : t.size ≤ 2000000) :
    Calls Tryd.prog 5 #[.string s, .string t, .slice A n c] w fun e w' => e = .returned (.bool true) ∧ Below w.heap.size w w' := by
  have HE := Lib.hid hE; have HO := Lib.hid hO; have HI := Lib.hid hI; clear hE hO hI
  go_enter Tryd.func5, Tryd.ntmps5
  go_wp2_with fail
  refine (fixed_fact Bf _ HE.out).mono ?_
  rintro e w0 ⟨rfl, hb0⟩
  have HB0 := Lib.hid hb0
  have HE0 := Lib.hid (HE.out.below hb0)
  have hsz0 := hb0.size
  clear hb0
  go_wp2_with fail
  refine (read_any s _).mono ?_
  rintro e w' ⟨rfl, rfl⟩
  go_wp2_with fail
  refine (read_any t _).mono ?_
  rintro e w' ⟨rfl, rfl⟩
  go_wp2_with fail
  obtain ⟨ga, hga⟩ : ∃ ga, ga = w0.heap.size := ⟨_, rfl⟩
  obtain ⟨base, hba⟩ : ∃ base, base = w0.heap.size + 5 := ⟨_, rfl⟩
  obtain ⟨gl, hgl⟩ : ∃ gl, gl = w0.heap.size + 1 + 1 + 1 + 1 := ⟨_, rfl⟩
  obtain ⟨gq, hgq⟩ : ∃ gq, gq = w0.heap.size + 1 + 1 + 1 := ⟨_, rfl⟩
  obtain ⟨gp, hgp⟩ : ∃ gp, gp = w0.heap.size + 1 + 1 := ⟨_, rfl⟩
  obtain ⟨gb, hgb⟩ : ∃ gb, gb = w0.heap.size + 1 := ⟨_, rfl⟩
  have PL := Lib.hid (show Pl w0.heap.size ga gb gp gq gl base by rw [hga, hgb, hgp, hgq, hgl, hba]; exact (rs_start w0 s t 2000000).1)
  have RS := Lib.hid (show Rs w0.heap.size ga gb gp gq gl base s t 2000000 0 w0 _ 0 0 by rw [hga, hgb, hgp, hgq, hgl, hba]; exact (rs_start w0 s t 2000000).2)
  rw [← hgl, ← hgq, ← hgp, ← hgb, ← hga]
  generalize ((((w0.alloc (.cells #[.string s, .int .i64 0] 85)).alloc (.cells #[.string t, .int .i64 0] 85)).alloc (.cells #[.int .i64 0] 3)).alloc (.cells #[.int .i64 0] 3)).alloc (.cells #[.slice none 0 0] 41) = w1 at *
  clear hga hba hgl hgq hgp hgb
  go_loopw [35, 13, 14, 15, 16, 17, 18, 19, 20] (fun vi _ _ _ _ _ _ _ _ wr => ∃ k : Nat, vi = .int .i64 k ∧ k ≤ n ∧ Hid (∃ p q, Rs w0.heap.size ga gb gp gq gl base s t 2000000 k w0 wr p q)) (fun vi _ _ _ _ _ _ _ _ _ => n - (intOf vi).toNat)
  case atStart => exact ⟨0, rfl, Nat.zero_le _, 0, 0, RS.out⟩
  case round =>
    obtain ⟨k, rfl, hk, hh⟩ := hrel
    by_cases h : k < n
    · obtain ⟨p, q, hR⟩ := hh.out
      obtain ⟨gs, os, rfl, hgs, hcs⟩ := HO.out (by omega)
      obtain ⟨c0, c1, c2, c3, c4, c5, c6, c7, _⟩ := hcs k h
      have hbw := HB0.out.trans (hR.bel.mono hsz0)
      have hg : ∀ (j : Nat) (v : Value), w.cell? ⟨gs, os + k * 8 + j, none⟩ = some v → wr.cell? ⟨gs, os + k * 8 + j, none⟩ = some v := fun j v hv => (hbw.cell (by exact hgs)).trans hv
      have d0 := hg 0 _ c0; have d1 := hg 1 _ c1; have d2 := hg 2 _ c2; have d3 := hg 3 _ c3; have d4 := hg 4 _ c4; have d5 := hg 5 _ c5; have d6 := hg 6 _ c6; have d7 := hg 7 _ c7
      rw [Nat.add_zero] at d0
      have HCS := Lib.hid hcs
      have hin := HI.out k h
      clear hcs hg c0 c1 c2 c3 c4 c5 c6 c7 hbw
      obtain ⟨o, hoe⟩ : ∃ o, ops k = o := ⟨_, rfl⟩
      rw [hoe] at d0 d1 d2 d3 d4 d5 d6 d7 hin
      have HOE := Lib.hid hoe; clear hoe
      cases hsec : o.sec with
      | false =>
        rw [hsec] at d1
        have hRr := hR
        have hv : o.val = .agg #[.int .i64 o.k, .bool false, .int .u64 o.u, .int .i64 o.i, .int .i64 o.n, .int .i64 o.m, .string o.s, .slice o.A o.ln o.lc] := by unfold OpV.val; rw [hsec]
        have hnew := Below.new wr (.cells #[.int .i64 o.k, .bool false, .int .u64 o.u, .int .i64 o.i, .int .i64 o.n, .int .i64 o.m, .string o.s, .slice o.A o.ln o.lc] 30)
        have hbox := box_cells wr (.int .i64 o.k) (.bool false) (.int .u64 o.u) (.int .i64 o.i) (.int .i64 o.n) (.int .i64 o.m) (.string o.s) (.slice o.A o.ln o.lc)
        have hRb := hRr.below PL.out hnew
        have hRd := hRb.below PL.out (below_drewN (Below.refl _ _) 1)
        obtain ⟨v, n', V, L, hC, hL, hn', hM⟩ := hRd.ls
        have a1 := get_any Bf w0.heap.size ga gl base n' 2000000 s p o v V L _ ((Env.base HE0.out).below hRd.bel) PL.out.lo.1 hRd.ra hRd.le.1 (by omega) hin hC hL hM (by omega) PL.out.hi.2.2.2.2 PL.out.hi.1 PL.out.a.2.2.2.symm hRd.big (by omega) PL.out.lo.2.2.2.2
        rw [hv] at a1
        replace a1 := a1.mono fun _ _ h => hRd.step PL.out hL hn' h
        have hcp : (wr.alloc (.cells #[.int .i64 o.k, .bool false, .int .u64 o.u, .int .i64 o.i, .int .i64 o.n, .int .i64 o.m, .string o.s, .slice o.A o.ln o.lc] 30)).cell? ⟨gp, 0, none⟩ = some (.int .i64 p) := by unfold World.cell?; rw [hRb.cp]; rfl
        obtain ⟨x0, x1, x2, x3, x4, x5, x6, x7⟩ := box8 hbox
        have HBX := Lib.hid hbox
        have HBG := Lib.hid (show base ≤ wr.heap.size from hRr.big)
        clear hv hnew hbox hRb hRr hL hC hM hn' hh hR
        go_wp2_with fail
        go_region_with (go_at_call 22; refine a1.mono ?_; rintro e w2 ⟨p', rfl, hp', hc2, hf2, hs2, hbk, hR2⟩)
        all_goals
          have hbx3 := hbk wr.heap.size _ HBG.out HBX.out
          have HR2 := Lib.hid hR2
          clear hbk hR2 a1 hRd
          have hx0 := (box8 hbx3).1
          clear hbx3
          have a2 := at_any ga s p' _ HR2.out.ra
          have a3 := left_any ga s p' _ HR2.out.ra HR2.out.le.1 (by omega)
          have a4 := fun m => done_any Bf ga s p' _ (((Env.base HE0.out).below (below_drewN HR2.out.bel m)).env) (HR2.out.ra.drewN m) HR2.out.le.1 (by omega)
          have HEN := Lib.hid ((Env.base HE0.out).below HR2.out.bel)
          obtain ⟨m, hm⟩ : ∃ m, m = s.size - p' := ⟨_, rfl⟩
          have hsub : (s.size : Int) - (p' : Int) = (m : Int) := by omega
          rw [← hm] at a3
          cases h0 : decide ((0 : Int) < (m : Int)) with
          | true =>
            have hd : doneE s p' = 5 := by unfold doneE; rw [if_pos (by have := of_decide_eq_true h0; omega)]
            simp only [hd] at a4
            have a5 := fun m => num_any Bf _ ((HEN.out.below (below_drewN (Below.refl _ _) m)).env) 5 (by decide)
            have h1 : (p' : Int) < (s.size : Int) := by have := of_decide_eq_true h0; omega
            clear hm hd
            cases h9 : (o.k == 9) with
            | false =>
              clear a2 a3 a4 a5
              go_wp2
              all_goals exact ⟨⟨k + 1, by go_num, by omega, Lib.hid ⟨p', q, HR2.out⟩⟩, by simp [intOf]; omega⟩
            | true =>
              go_wp2_with fail
              refine a2.mono ?_
              rintro e w' ⟨rfl, rfl⟩
              go_wp2_with fail
              refine a3.mono ?_
              rintro e w' ⟨rfl, m1, rfl⟩
              go_wp2_with fail
              refine (a4 m1).mono ?_
              rintro e w' ⟨rfl, m2, rfl⟩
              rw [World.drewN_drewN]
              go_wp2_with fail
              refine (a5 _).mono ?_
              rintro e w4 ⟨rfl, hb4⟩
              have HR4 := Lib.hid ((HR2.out.below PL.out (below_drewN (Below.refl _ _) (m1 + m2))).below PL.out hb4)
              clear hb4
              go_wp2
              all_goals exact ⟨⟨k + 1, by go_num, by omega, Lib.hid ⟨p', q, HR4.out⟩⟩, by simp [intOf]; omega⟩
          | false =>
            have hd : doneE s p' = 0 := by unfold doneE; rw [if_neg (by have := of_decide_eq_false h0; omega)]
            simp only [hd] at a4
            have a5 := fun m => num_any Bf _ ((HEN.out.below (below_drewN (Below.refl _ _) m)).env) 0 (by decide)
            have h1 : ¬ (p' : Int) < (s.size : Int) := by have := of_decide_eq_false h0; omega
            have h2 : decide ((p' : Int) < (s.size : Int)) = false := decide_eq_false h1
            clear hm hd
            cases h9 : (o.k == 9) with
            | false =>
              clear a2 a3 a4 a5
              go_wp2
              all_goals exact ⟨⟨k + 1, by go_num, by omega, Lib.hid ⟨p', q, HR2.out⟩⟩, by simp [intOf]; omega⟩
            | true =>
              go_wp2_with fail
              refine a2.mono ?_
              rintro e w' ⟨rfl, rfl⟩
              go_wp2_with fail
              refine a3.mono ?_
              rintro e w' ⟨rfl, m1, rfl⟩
              go_wp2_with fail
              refine (a4 m1).mono ?_
              rintro e w' ⟨rfl, m2, rfl⟩
              rw [World.drewN_drewN]
              go_wp2_with fail
              refine (a5 _).mono ?_
              rintro e w4 ⟨rfl, hb4⟩
              have HR4 := Lib.hid ((HR2.out.below PL.out (below_drewN (Below.refl _ _) (m1 + m2))).below PL.out hb4)
              clear hb4
              go_wp2
              all_goals exact ⟨⟨k + 1, by go_num, by omega, Lib.hid ⟨p', q, HR4.out⟩⟩, by simp [intOf]; omega⟩
      | true =>
        rw [hsec] at d1
        have hRr := hR.swap
        have hv : o.val = .agg #[.int .i64 o.k, .bool true, .int .u64 o.u, .int .i64 o.i, .int .i64 o.n, .int .i64 o.m, .string o.s, .slice o.A o.ln o.lc] := by unfold OpV.val; rw [hsec]
        have hnew := Below.new wr (.cells #[.int .i64 o.k, .bool true, .int .u64 o.u, .int .i64 o.i, .int .i64 o.n, .int .i64 o.m, .string o.s, .slice o.A o.ln o.lc] 30)
        have hbox := box_cells wr (.int .i64 o.k) (.bool true) (.int .u64 o.u) (.int .i64 o.i) (.int .i64 o.n) (.int .i64 o.m) (.string o.s) (.slice o.A o.ln o.lc)
        have hRb := hRr.below PL.out.swap hnew
        have hRd := hRb.below PL.out.swap (below_drewN (Below.refl _ _) 1)
        obtain ⟨v, n', V, L, hC, hL, hn', hM⟩ := hRd.ls
        have a1 := get_any Bf w0.heap.size gb gl base n' 2000000 t q o v V L _ ((Env.base HE0.out).below hRd.bel) PL.out.swap.lo.1 hRd.ra hRd.le.1 (by omega) hin hC hL hM (by omega) PL.out.swap.hi.2.2.2.2 PL.out.swap.hi.1 PL.out.swap.a.2.2.2.symm hRd.big (by omega) PL.out.swap.lo.2.2.2.2
        rw [hv] at a1
        replace a1 := a1.mono fun _ _ h => hRd.step PL.out.swap hL hn' h
        have hcp : (wr.alloc (.cells #[.int .i64 o.k, .bool true, .int .u64 o.u, .int .i64 o.i, .int .i64 o.n, .int .i64 o.m, .string o.s, .slice o.A o.ln o.lc] 30)).cell? ⟨gq, 0, none⟩ = some (.int .i64 q) := by unfold World.cell?; rw [hRb.cp]; rfl
        obtain ⟨x0, x1, x2, x3, x4, x5, x6, x7⟩ := box8 hbox
        have HBX := Lib.hid hbox
        have HBG := Lib.hid (show base ≤ wr.heap.size from hRr.big)
        clear hv hnew hbox hRb hRr hL hC hM hn' hh hR
        go_wp2_with fail
        go_region_with (go_at_call 22; refine a1.mono ?_; rintro e w2 ⟨p', rfl, hp', hc2, hf2, hs2, hbk, hR2⟩)
        all_goals
          have hbx3 := hbk wr.heap.size _ HBG.out HBX.out
          have HR2 := Lib.hid hR2
          clear hbk hR2 a1 hRd
          have hx0 := (box8 hbx3).1
          clear hbx3
          have a2 := at_any gb t p' _ HR2.out.ra
          have a3 := left_any gb t p' _ HR2.out.ra HR2.out.le.1 (by omega)
          have a4 := fun m => done_any Bf gb t p' _ (((Env.base HE0.out).below (below_drewN HR2.out.bel m)).env) (HR2.out.ra.drewN m) HR2.out.le.1 (by omega)
          have HEN := Lib.hid ((Env.base HE0.out).below HR2.out.bel)
          obtain ⟨m, hm⟩ : ∃ m, m = t.size - p' := ⟨_, rfl⟩
          have hsub : (t.size : Int) - (p' : Int) = (m : Int) := by omega
          rw [← hm] at a3
          cases h0 : decide ((0 : Int) < (m : Int)) with
          | true =>
            have hd : doneE t p' = 5 := by unfold doneE; rw [if_pos (by have := of_decide_eq_true h0; omega)]
            simp only [hd] at a4
            have a5 := fun m => num_any Bf _ ((HEN.out.below (below_drewN (Below.refl _ _) m)).env) 5 (by decide)
            have h1 : (p' : Int) < (t.size : Int) := by have := of_decide_eq_true h0; omega
            clear hm hd
            cases h9 : (o.k == 9) with
            | false =>
              clear a2 a3 a4 a5
              go_wp2
              all_goals exact ⟨⟨k + 1, by go_num, by omega, Lib.hid ⟨p, p', HR2.out.swap⟩⟩, by simp [intOf]; omega⟩
            | true =>
              go_wp2_with fail
              refine a2.mono ?_
              rintro e w' ⟨rfl, rfl⟩
              go_wp2_with fail
              refine a3.mono ?_
              rintro e w' ⟨rfl, m1, rfl⟩
              go_wp2_with fail
              refine (a4 m1).mono ?_
              rintro e w' ⟨rfl, m2, rfl⟩
              rw [World.drewN_drewN]
              go_wp2_with fail
              refine (a5 _).mono ?_
              rintro e w4 ⟨rfl, hb4⟩
              have HR4 := Lib.hid ((HR2.out.below PL.out.swap (below_drewN (Below.refl _ _) (m1 + m2))).below PL.out.swap hb4)
              clear hb4
              go_wp2
              all_goals exact ⟨⟨k + 1, by go_num, by omega, Lib.hid ⟨p, p', HR4.out.swap⟩⟩, by simp [intOf]; omega⟩
          | false =>
            have hd : doneE t p' = 0 := by unfold doneE; rw [if_neg (by have := of_decide_eq_false h0; omega)]
            simp only [hd] at a4
            have a5 := fun m => num_any Bf _ ((HEN.out.below (below_drewN (Below.refl _ _) m)).env) 0 (by decide)
            have h1 : ¬ (p' : Int) < (t.size : Int) := by have := of_decide_eq_false h0; omega
            have h2 : decide ((p' : Int) < (t.size : Int)) = false := decide_eq_false h1
            clear hm hd
            cases h9 : (o.k == 9) with
            | false =>
              clear a2 a3 a4 a5
              go_wp2
              all_goals exact ⟨⟨k + 1, by go_num, by omega, Lib.hid ⟨p, p', HR2.out.swap⟩⟩, by simp [intOf]; omega⟩
            | true =>
              go_wp2_with fail
              refine a2.mono ?_
              rintro e w' ⟨rfl, rfl⟩
              go_wp2_with fail
              refine a3.mono ?_
              rintro e w' ⟨rfl, m1, rfl⟩
              go_wp2_with fail
              refine (a4 m1).mono ?_
              rintro e w' ⟨rfl, m2, rfl⟩
              rw [World.drewN_drewN]
              go_wp2_with fail
              refine (a5 _).mono ?_
              rintro e w4 ⟨rfl, hb4⟩
              have HR4 := Lib.hid ((HR2.out.below PL.out.swap (below_drewN (Below.refl _ _) (m1 + m2))).below PL.out.swap hb4)
              clear hb4
              go_wp2
              all_goals exact ⟨⟨k + 1, by go_num, by omega, Lib.hid ⟨p, p', HR4.out.swap⟩⟩, by simp [intOf]; omega⟩
    · obtain ⟨p, q, hR⟩ := hh.out
      obtain ⟨v, n', V, L, hC, hL, hn', hM⟩ := hR.ls
      obtain ⟨A1, c1, rfl⟩ := hL.form
      have hcl : wr.cell? ⟨gl, 0, none⟩ = some (.slice A1 n' c1) := by unfold World.cell?; rw [hC]; rfl
      have a1 := own_lists base n' _ V L wr hL (by omega) (fun i hi => by have := hM i hi; omega) hR.big
      have HR := Lib.hid hR
      clear hC hL hM hR hh
      go_wp2_with fail
      refine a1.mono ?_
      clear a1
      rintro e w2 ⟨rfl, hb2, _⟩
      have hi := PL.out.hi
      have hz := HR.out.big
      have lo := PL.out.lo
      have hra : Rdr w2 ga s p := (hb2.block ga (by omega)).trans HR.out.ra
      have hrb : Rdr w2 gb t q := (hb2.block gb (by omega)).trans HR.out.rb
      have hcp : w2.cell? ⟨gp, 0, none⟩ = some (.int .i64 p) := by unfold World.cell?; rw [(hb2.block gp (by omega)).trans HR.out.cp]; rfl
      have hcq : w2.cell? ⟨gq, 0, none⟩ = some (.int .i64 q) := by unfold World.cell?; rw [(hb2.block gq (by omega)).trans HR.out.cq]; rfl
      have HB2 := Lib.hid (HB0.out.trans ((HR.out.bel.trans (hb2.mono (by omega))).mono hsz0))
      have lp := HR.out.le.1; have lq := HR.out.le.2
      have at1 : ∀ n, Calls Tryd.prog 23 #[.pointer (some ⟨ga, 0, none⟩)] (w2.drewN n) (fun e w' => e = .returned (.int .i64 p) ∧ w' = w2.drewN n) := fun n => (at_any ga s p (w2.drewN n) (hra.drewN n)).mono fun _ _ h => ⟨h.1, h.2.symm⟩
      have at2 : ∀ n, Calls Tryd.prog 23 #[.pointer (some ⟨gb, 0, none⟩)] (w2.drewN n) (fun e w' => e = .returned (.int .i64 q) ∧ w' = w2.drewN n) := fun n => (at_any gb t q (w2.drewN n) (hrb.drewN n)).mono fun _ _ h => ⟨h.1, h.2.symm⟩
      have le1 := fun n => left_any ga s p (w2.drewN n) (hra.drewN n) lp (by omega)
      have le2 := fun n => left_any gb t q (w2.drewN n) (hrb.drewN n) lq (by omega)
      have hl1 : IntKind.i64.wrap ((s.size : Int) - (p : Int)) = ((s.size - p : Nat) : Int) := by
        rw [IntWalk.i64_in _ (by omega)]; omega
      have hl2 : IntKind.i64.wrap ((t.size : Int) - (q : Int)) = ((t.size - q : Nat) : Int) := by
        rw [IntWalk.i64_in _ (by omega)]; omega
      generalize s.size - p = m1 at *
      generalize t.size - q = m2 at *
      clear hra hrb hb2 lp lq hi hz lo
      go_wp2_with fail
      go_quiet ((first | (go_at_call 23; with_reducible exact Calls.quiet_of_same (at1 _)) | (go_at_call 23; with_reducible exact Calls.quiet_of_same (at2 _)) | (go_at_call 24; with_reducible exact Calls.quiet_of (le1 _)) | (go_at_call 24; with_reducible exact Calls.quiet_of (le2 _))))
      go_wp2
      go_ret
      exact ⟨rfl, below_drewN HB2.out _⟩
end Go.Proofs.YtnodjcapclkmhaaDoor
