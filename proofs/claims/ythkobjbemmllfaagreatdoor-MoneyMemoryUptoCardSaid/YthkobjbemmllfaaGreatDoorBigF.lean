/- math/big: Int.Sub for any operands whose nat-level answers are known: walked (printed by gen_intop.py). -/
import Derived.Test.YthkobjbemmllfaaGreatDoorBigE
namespace Go.Proofs.YthkobjbemmllfaaGreatDoor
open Go.RowKit

set_option maxRecDepth 100000 in
set_option maxHeartbeats 4000000 in
theorem intSub_same (base gs gx gy N : Nat) (bz bx by_ : Bool) (zA xA yA : Option Addr) (zn zc xn xc yn yc : Nat) (w : World) (hop : Opnds w gs gx gy bz bx by_ (.slice zA zn zc) (.slice xA xn xc) (.slice yA yn yc))
    (a1 : ∀ n, Calls Tryz.prog 48 #[.slice zA zn zc, .slice xA xn xc, .slice yA yn yc] (w.drewN n) (SetPost base (Value.slice zA zn zc).ownBlock N (w.drewN n))) (hs : by_ = !bx) :
    Calls Tryz.prog 42 #[.pointer (some ⟨gs, 0, none⟩), .pointer (some ⟨gx, 0, none⟩), .pointer (some ⟨gy, 0, none⟩)] w (OpPost base gs (.slice zA zn zc) N (decide (0 < N) && bx) w) := by
  obtain ⟨hg, hgx, hgy, hvb⟩ := hop
  have c0 : w.cell? ⟨gs, 0, none⟩ = some (.bool bz) := by unfold World.cell?; rw [hg]; rfl
  have c1 : w.cell? ⟨gs, 1, none⟩ = some (.slice zA zn zc) := by unfold World.cell?; rw [hg]; rfl
  have x0 : w.cell? ⟨gx, 0, none⟩ = some (.bool bx) := by unfold World.cell?; rw [hgx]; rfl
  have x1 : w.cell? ⟨gx, 1, none⟩ = some (.slice xA xn xc) := by unfold World.cell?; rw [hgx]; rfl
  have c2 : w.cell? ⟨gy, 0, none⟩ = some (.bool by_) := by unfold World.cell?; rw [hgy]; rfl
  have c3 : w.cell? ⟨gy, 1, none⟩ = some (.slice yA yn yc) := by unfold World.cell?; rw [hgy]; rfl
  subst hs
  have HG := Lib.hid hg; have HVB := Lib.hid hvb
  have hgl : gs < w.heap.size := World.block_lt_of_cell? w _ c0
  have HC2 := Lib.hid (show ∀ n2 w2, (w.drewN n2).grownBy w2 (Value.slice zA zn zc).ownBlock → ∃ z, w2.heap[gs]? = some (.cells #[.bool z, .slice zA zn zc] 48 (0, 0)) from fun n2 w2 hgr => ⟨_, (hgr.block gs hgl (fun e => hvb e.symm)).trans hg⟩)
  clear hg hvb hgx hgy hgl
  go_enter Tryz.func42, Tryz.ntmps42
  go_wp2
  go_quiet (fail)
  generalize hw1 : w.drewN nq = w1
  have k0 : w1.cell? ⟨gs, 0, none⟩ = some (.bool bz) := by rw [← hw1]; exact c0
  have k1 : w1.cell? ⟨gs, 1, none⟩ = some (.slice zA zn zc) := by rw [← hw1]; exact c1
  have kx : w1.cell? ⟨gx, 1, none⟩ = some (.slice xA xn xc) := by rw [← hw1]; exact x1
  have k3 : w1.cell? ⟨gy, 1, none⟩ = some (.slice yA yn yc) := by rw [← hw1]; exact c3
  have b1 : ∀ m, Calls Tryz.prog 48 #[.slice zA zn zc, .slice xA xn xc, .slice yA yn yc] (w1.drewN m) (SetPost base (Value.slice zA zn zc).ownBlock N (w1.drewN m)) := by rw [← hw1]; exact fun m => by rw [World.drewN_drewN]; exact a1 _
  have HC3 := Lib.hid (show ∀ n2 w2, (w1.drewN n2).grownBy w2 (Value.slice zA zn zc).ownBlock → ∃ z, w2.heap[gs]? = some (.cells #[.bool z, .slice zA zn zc] 48 (0, 0)) from by rw [← hw1]; exact fun n2 w2 h => HC2.out (nq + n2) w2 (by rw [← World.drewN_drewN]; exact h))
  have HW := Lib.hid hw1
  clear a1 hw1 c0 c1 c2 c3 x0 x1 HC2
  go_wp2_with fail
  go_region_with (go_at_call 48; refine (b1 _).mono ?_; rintro e w2 ⟨v', rfl, hN2, hgr, hat⟩; obtain ⟨A2, n2, d2, rfl, hn2⟩ := hN2.form; obtain ⟨z, hz⟩ := HC3.out _ _ hgr; obtain ⟨q1, q2⟩ := cells_57 hz)
  all_goals
    obtain ⟨r0, r0f, r1⟩ := cells_set hz (.slice A2 n2 d2)
    have HN2 := Lib.hid hN2; have HGR := Lib.hid hgr; have HAT := Lib.hid hat
    clear b1 hN2 hgr hat hz q1 q2 k0 k1 kx k3
    cases hq : decide ((0 : Int) < (n2 : Int)) with
    | true =>
      have hn3 := of_decide_eq_true hq
      have HQ := Lib.hid (show decide (0 < N) = true from decide_eq_true (by omega))
      clear hn2
      go_wp2
      go_ret
      exact OpPost.fin HG.out HVB.out HN2.out HGR.out ⟨_, by rw [← HW.out, World.drewN_drewN]⟩ HAT.out (by rw [HQ.out]; rfl)
    | false =>
      have hn3 : ¬ (0 : Int) < (n2 : Int) := of_decide_eq_false hq
      have HQ := Lib.hid (show decide (0 < N) = false from decide_eq_false (by omega))
      clear hn2
      go_wp2
      go_ret
      exact OpPost.fin HG.out HVB.out HN2.out HGR.out ⟨_, by rw [← HW.out, World.drewN_drewN]⟩ HAT.out (by rw [HQ.out]; rfl)

set_option maxRecDepth 100000 in
set_option maxHeartbeats 4000000 in
theorem intSub_more (base gs gx gy N : Nat) (r : Int) (bz bx by_ : Bool) (zA xA yA : Option Addr) (zn zc xn xc yn yc : Nat) (w : World) (hop : Opnds w gs gx gy bz bx by_ (.slice zA zn zc) (.slice xA xn xc) (.slice yA yn yc))
    (a1 : ∀ n, Calls Tryz.prog 50 #[.slice zA zn zc, .slice xA xn xc, .slice yA yn yc] (w.drewN n) (SetPost base (Value.slice zA zn zc).ownBlock N (w.drewN n)))
    (a2 : ∀ n, Calls Tryz.prog 49 #[.slice xA xn xc, .slice yA yn yc] (w.drewN n) (fun e w' => e = .returned (.int .i64 r) ∧ ∃ k, w' = (w.drewN n).drewN k)) (hr : 0 ≤ r) (hs : by_ = bx) :
    Calls Tryz.prog 42 #[.pointer (some ⟨gs, 0, none⟩), .pointer (some ⟨gx, 0, none⟩), .pointer (some ⟨gy, 0, none⟩)] w (OpPost base gs (.slice zA zn zc) N (decide (0 < N) && bx) w) := by
  obtain ⟨hg, hgx, hgy, hvb⟩ := hop
  have c0 : w.cell? ⟨gs, 0, none⟩ = some (.bool bz) := by unfold World.cell?; rw [hg]; rfl
  have c1 : w.cell? ⟨gs, 1, none⟩ = some (.slice zA zn zc) := by unfold World.cell?; rw [hg]; rfl
  have x0 : w.cell? ⟨gx, 0, none⟩ = some (.bool bx) := by unfold World.cell?; rw [hgx]; rfl
  have x1 : w.cell? ⟨gx, 1, none⟩ = some (.slice xA xn xc) := by unfold World.cell?; rw [hgx]; rfl
  have c2 : w.cell? ⟨gy, 0, none⟩ = some (.bool by_) := by unfold World.cell?; rw [hgy]; rfl
  have c3 : w.cell? ⟨gy, 1, none⟩ = some (.slice yA yn yc) := by unfold World.cell?; rw [hgy]; rfl
  subst hs
  have HG := Lib.hid hg; have HVB := Lib.hid hvb
  have hgl : gs < w.heap.size := World.block_lt_of_cell? w _ c0
  have HC2 := Lib.hid (show ∀ n2 w2, (w.drewN n2).grownBy w2 (Value.slice zA zn zc).ownBlock → ∃ z, w2.heap[gs]? = some (.cells #[.bool z, .slice zA zn zc] 48 (0, 0)) from fun n2 w2 hgr => ⟨_, (hgr.block gs hgl (fun e => hvb e.symm)).trans hg⟩)
  clear hg hvb hgx hgy hgl
  go_enter Tryz.func42, Tryz.ntmps42
  go_wp2
  go_quiet (fail)
  generalize hw1 : w.drewN nq = w1
  have k0 : w1.cell? ⟨gs, 0, none⟩ = some (.bool bz) := by rw [← hw1]; exact c0
  have k1 : w1.cell? ⟨gs, 1, none⟩ = some (.slice zA zn zc) := by rw [← hw1]; exact c1
  have kx : w1.cell? ⟨gx, 1, none⟩ = some (.slice xA xn xc) := by rw [← hw1]; exact x1
  have k3 : w1.cell? ⟨gy, 1, none⟩ = some (.slice yA yn yc) := by rw [← hw1]; exact c3
  have b1 : ∀ m, Calls Tryz.prog 50 #[.slice zA zn zc, .slice xA xn xc, .slice yA yn yc] (w1.drewN m) (SetPost base (Value.slice zA zn zc).ownBlock N (w1.drewN m)) := by rw [← hw1]; exact fun m => by rw [World.drewN_drewN]; exact a1 _
  have b2 : ∀ m, Calls Tryz.prog 49 #[.slice xA xn xc, .slice yA yn yc] (w1.drewN m) (fun e w' => e = .returned (.int .i64 r) ∧ ∃ k, w' = (w1.drewN m).drewN k) := by rw [← hw1]; exact fun m => by rw [World.drewN_drewN]; exact a2 _
  have HC3 := Lib.hid (show ∀ n2 w2, (w1.drewN n2).grownBy w2 (Value.slice zA zn zc).ownBlock → ∃ z, w2.heap[gs]? = some (.cells #[.bool z, .slice zA zn zc] 48 (0, 0)) from by rw [← hw1]; exact fun n2 w2 h => HC2.out (nq + n2) w2 (by rw [← World.drewN_drewN]; exact h))
  have HW := Lib.hid (show ∃ n, w1 = w.drewN n from ⟨nq, hw1.symm⟩)
  clear a1 a2 hw1 c0 c1 c2 c3 x0 x1 HC2 nq
  go_wp2
  go_quiet ((first | (go_at_call 49; exact Calls.quiet_of (b2 _))))
  generalize hw2 : w1.drewN nq = w4
  have m0 : w4.cell? ⟨gs, 0, none⟩ = some (.bool bz) := by rw [← hw2]; exact k0
  have m1 : w4.cell? ⟨gs, 1, none⟩ = some (.slice zA zn zc) := by rw [← hw2]; exact k1
  have mx : w4.cell? ⟨gx, 1, none⟩ = some (.slice xA xn xc) := by rw [← hw2]; exact kx
  have m3 : w4.cell? ⟨gy, 1, none⟩ = some (.slice yA yn yc) := by rw [← hw2]; exact k3
  have d1 : ∀ m, Calls Tryz.prog 50 #[.slice zA zn zc, .slice xA xn xc, .slice yA yn yc] (w4.drewN m) (SetPost base (Value.slice zA zn zc).ownBlock N (w4.drewN m)) := by rw [← hw2]; exact fun m => by rw [World.drewN_drewN]; exact b1 _
  have HC4 := Lib.hid (show ∀ n2 w2, (w4.drewN n2).grownBy w2 (Value.slice zA zn zc).ownBlock → ∃ z, w2.heap[gs]? = some (.cells #[.bool z, .slice zA zn zc] 48 (0, 0)) from by rw [← hw2]; exact fun n2 w2 h => HC3.out (nq + n2) w2 (by rw [← World.drewN_drewN]; exact h))
  have HW4 := Lib.hid (show ∃ n, w4 = w.drewN n from (by obtain ⟨n, hn⟩ := HW.out; exact ⟨_, by rw [← hw2, hn, World.drewN_drewN]⟩))
  clear b1 b2 hw2 k0 k1 kx k3 HC3 HW nq
  go_wp2_with fail
  go_region_with (go_at_call 50; refine (d1 _).mono ?_; rintro e w2 ⟨v', rfl, hN2, hgr, hat⟩; obtain ⟨A2, n2, d2, rfl, hn2⟩ := hN2.form; obtain ⟨z, hz⟩ := HC4.out _ _ hgr; obtain ⟨q1, q2⟩ := cells_57 hz)
  all_goals
    obtain ⟨r0, r0f, r1⟩ := cells_set hz (.slice A2 n2 d2)
    have HN2 := Lib.hid hN2; have HGR := Lib.hid hgr; have HAT := Lib.hid hat
    clear d1 hN2 hgr hat hz q1 q2 m0 m1 mx m3
    cases hq : decide ((0 : Int) < (n2 : Int)) with
    | true =>
      have hn3 := of_decide_eq_true hq
      have HQ := Lib.hid (show decide (0 < N) = true from decide_eq_true (by omega))
      clear hn2
      go_wp2
      go_ret
      exact OpPost.fin HG.out HVB.out HN2.out HGR.out (by obtain ⟨n, hn⟩ := HW4.out; exact ⟨_, by rw [hn, World.drewN_drewN]⟩) HAT.out (by rw [HQ.out]; rfl)
    | false =>
      have hn3 : ¬ (0 : Int) < (n2 : Int) := of_decide_eq_false hq
      have HQ := Lib.hid (show decide (0 < N) = false from decide_eq_false (by omega))
      clear hn2
      go_wp2
      go_ret
      exact OpPost.fin HG.out HVB.out HN2.out HGR.out (by obtain ⟨n, hn⟩ := HW4.out; exact ⟨_, by rw [hn, World.drewN_drewN]⟩) HAT.out (by rw [HQ.out]; rfl)

set_option maxRecDepth 100000 in
set_option maxHeartbeats 4000000 in
theorem intSub_less (base gs gx gy N : Nat) (r : Int) (bz bx by_ : Bool) (zA xA yA : Option Addr) (zn zc xn xc yn yc : Nat) (w : World) (hop : Opnds w gs gx gy bz bx by_ (.slice zA zn zc) (.slice xA xn xc) (.slice yA yn yc))
    (a1 : ∀ n, Calls Tryz.prog 50 #[.slice zA zn zc, .slice yA yn yc, .slice xA xn xc] (w.drewN n) (SetPost base (Value.slice zA zn zc).ownBlock N (w.drewN n)))
    (a2 : ∀ n, Calls Tryz.prog 49 #[.slice xA xn xc, .slice yA yn yc] (w.drewN n) (fun e w' => e = .returned (.int .i64 r) ∧ ∃ k, w' = (w.drewN n).drewN k)) (hr : r < 0) (hs : by_ = bx) :
    Calls Tryz.prog 42 #[.pointer (some ⟨gs, 0, none⟩), .pointer (some ⟨gx, 0, none⟩), .pointer (some ⟨gy, 0, none⟩)] w (OpPost base gs (.slice zA zn zc) N (decide (0 < N) && !bx) w) := by
  obtain ⟨hg, hgx, hgy, hvb⟩ := hop
  have c0 : w.cell? ⟨gs, 0, none⟩ = some (.bool bz) := by unfold World.cell?; rw [hg]; rfl
  have c1 : w.cell? ⟨gs, 1, none⟩ = some (.slice zA zn zc) := by unfold World.cell?; rw [hg]; rfl
  have x0 : w.cell? ⟨gx, 0, none⟩ = some (.bool bx) := by unfold World.cell?; rw [hgx]; rfl
  have x1 : w.cell? ⟨gx, 1, none⟩ = some (.slice xA xn xc) := by unfold World.cell?; rw [hgx]; rfl
  have c2 : w.cell? ⟨gy, 0, none⟩ = some (.bool by_) := by unfold World.cell?; rw [hgy]; rfl
  have c3 : w.cell? ⟨gy, 1, none⟩ = some (.slice yA yn yc) := by unfold World.cell?; rw [hgy]; rfl
  subst hs
  have HG := Lib.hid hg; have HVB := Lib.hid hvb
  have hgl : gs < w.heap.size := World.block_lt_of_cell? w _ c0
  have HC2 := Lib.hid (show ∀ n2 w2, (w.drewN n2).grownBy w2 (Value.slice zA zn zc).ownBlock → ∃ z, w2.heap[gs]? = some (.cells #[.bool z, .slice zA zn zc] 48 (0, 0)) from fun n2 w2 hgr => ⟨_, (hgr.block gs hgl (fun e => hvb e.symm)).trans hg⟩)
  clear hg hvb hgx hgy hgl
  go_enter Tryz.func42, Tryz.ntmps42
  go_wp2
  go_quiet (fail)
  generalize hw1 : w.drewN nq = w1
  have k0 : w1.cell? ⟨gs, 0, none⟩ = some (.bool bz) := by rw [← hw1]; exact c0
  have k1 : w1.cell? ⟨gs, 1, none⟩ = some (.slice zA zn zc) := by rw [← hw1]; exact c1
  have kx : w1.cell? ⟨gx, 1, none⟩ = some (.slice xA xn xc) := by rw [← hw1]; exact x1
  have k3 : w1.cell? ⟨gy, 1, none⟩ = some (.slice yA yn yc) := by rw [← hw1]; exact c3
  have b1 : ∀ m, Calls Tryz.prog 50 #[.slice zA zn zc, .slice yA yn yc, .slice xA xn xc] (w1.drewN m) (SetPost base (Value.slice zA zn zc).ownBlock N (w1.drewN m)) := by rw [← hw1]; exact fun m => by rw [World.drewN_drewN]; exact a1 _
  have b2 : ∀ m, Calls Tryz.prog 49 #[.slice xA xn xc, .slice yA yn yc] (w1.drewN m) (fun e w' => e = .returned (.int .i64 r) ∧ ∃ k, w' = (w1.drewN m).drewN k) := by rw [← hw1]; exact fun m => by rw [World.drewN_drewN]; exact a2 _
  have HC3 := Lib.hid (show ∀ n2 w2, (w1.drewN n2).grownBy w2 (Value.slice zA zn zc).ownBlock → ∃ z, w2.heap[gs]? = some (.cells #[.bool z, .slice zA zn zc] 48 (0, 0)) from by rw [← hw1]; exact fun n2 w2 h => HC2.out (nq + n2) w2 (by rw [← World.drewN_drewN]; exact h))
  have HW := Lib.hid (show ∃ n, w1 = w.drewN n from ⟨nq, hw1.symm⟩)
  clear a1 a2 hw1 c0 c1 c2 c3 x0 x1 HC2 nq
  go_wp2
  go_quiet ((first | (go_at_call 49; exact Calls.quiet_of (b2 _))))
  generalize hw2 : w1.drewN nq = w4
  have m0 : w4.cell? ⟨gs, 0, none⟩ = some (.bool bz) := by rw [← hw2]; exact k0
  have m1 : w4.cell? ⟨gs, 1, none⟩ = some (.slice zA zn zc) := by rw [← hw2]; exact k1
  have mx : w4.cell? ⟨gx, 1, none⟩ = some (.slice xA xn xc) := by rw [← hw2]; exact kx
  have m3 : w4.cell? ⟨gy, 1, none⟩ = some (.slice yA yn yc) := by rw [← hw2]; exact k3
  have d1 : ∀ m, Calls Tryz.prog 50 #[.slice zA zn zc, .slice yA yn yc, .slice xA xn xc] (w4.drewN m) (SetPost base (Value.slice zA zn zc).ownBlock N (w4.drewN m)) := by rw [← hw2]; exact fun m => by rw [World.drewN_drewN]; exact b1 _
  have HC4 := Lib.hid (show ∀ n2 w2, (w4.drewN n2).grownBy w2 (Value.slice zA zn zc).ownBlock → ∃ z, w2.heap[gs]? = some (.cells #[.bool z, .slice zA zn zc] 48 (0, 0)) from by rw [← hw2]; exact fun n2 w2 h => HC3.out (nq + n2) w2 (by rw [← World.drewN_drewN]; exact h))
  have HW4 := Lib.hid (show ∃ n, w4 = w.drewN n from (by obtain ⟨n, hn⟩ := HW.out; exact ⟨_, by rw [← hw2, hn, World.drewN_drewN]⟩))
  clear b1 b2 hw2 k0 k1 kx k3 HC3 HW nq
  go_wp2_with fail
  go_region_with (go_at_call 50; refine (d1 _).mono ?_; rintro e w2 ⟨v', rfl, hN2, hgr, hat⟩; obtain ⟨A2, n2, d2, rfl, hn2⟩ := hN2.form; obtain ⟨z, hz⟩ := HC4.out _ _ hgr; obtain ⟨q1, q2⟩ := cells_57 hz)
  all_goals
    obtain ⟨r0, r0f, r1⟩ := cells_set hz (.slice A2 n2 d2)
    have HN2 := Lib.hid hN2; have HGR := Lib.hid hgr; have HAT := Lib.hid hat
    clear d1 hN2 hgr hat hz q1 q2 m0 m1 mx m3
    cases hq : decide ((0 : Int) < (n2 : Int)) with
    | true =>
      have hn3 := of_decide_eq_true hq
      have HQ := Lib.hid (show decide (0 < N) = true from decide_eq_true (by omega))
      clear hn2
      go_wp2
      go_ret
      exact OpPost.fin HG.out HVB.out HN2.out HGR.out (by obtain ⟨n, hn⟩ := HW4.out; exact ⟨_, by rw [hn, World.drewN_drewN]⟩) HAT.out (by rw [HQ.out]; rfl)
    | false =>
      have hn3 : ¬ (0 : Int) < (n2 : Int) := of_decide_eq_false hq
      have HQ := Lib.hid (show decide (0 < N) = false from decide_eq_false (by omega))
      clear hn2
      go_wp2
      go_ret
      exact OpPost.fin HG.out HVB.out HN2.out HGR.out (by obtain ⟨n, hn⟩ := HW4.out; exact ⟨_, by rw [hn, World.drewN_drewN]⟩) HAT.out (by rw [HQ.out]; rfl)
end Go.Proofs.YthkobjbemmllfaaGreatDoor
