/- math/big: Int.Add where the signs differ: walked. -/
import Derived.Test.YthkobjbemmllfaaGreatDoorBigB
namespace Go.Proofs.YthkobjbemmllfaaGreatDoor
open Go.RowKit

set_option maxRecDepth 100000 in
set_option maxHeartbeats 4000000 in
theorem bigAdd_less (base gs h gy : Nat) (X x : Int) (v : Value) (w : World) (hg : w.heap[gs]? = some (.cells #[.bool (decide (X < 0)), v] 48 (0, 0))) (hN : Nv w base v X.natAbs)
    (hgy : w.heap[gy]? = some (.cells #[.bool (decide (x < 0)), .slice (some ⟨h, 0, none⟩) 1 1] 48 (0, 0))) (hO : One w h 1 x.natAbs) (hne : v.ownBlock ≠ some h) (hb : base ≤ w.heap.size) (hX : X.natAbs < x.natAbs) (hs : decide (x < 0) = !decide (X < 0)) :
    Calls Tryz.prog 25 #[.pointer (some ⟨gs, 0, none⟩), .pointer (some ⟨gs, 0, none⟩), .pointer (some ⟨gy, 0, none⟩)] w (AddPost base gs v (X + x) w) := by
  have a1 := fun n m => bus_any base h 1 x.natAbs X.natAbs v ((w.drewN n).drewN m) hN (show One ((w.drewN n).drewN m) h 1 x.natAbs from ⟨hO.blk, hO.cap, hO.pos, hO.lt⟩) hX hb
  have hvb : v.ownBlock ≠ some gs := fun e => by
    obtain ⟨_, _, cur, hc⟩ := hN.block e
    rw [hg] at hc
    injection hc with hc
    injection hc with _ hc _
    cases hc
  have hp := hO.pos
  have a2 := fun n => cmp_any base h 1 x.natAbs X.natAbs v (w.drewN n) hN (show One (w.drewN n) h 1 x.natAbs from ⟨hO.blk, hO.cap, hO.pos, hO.lt⟩)
  have a3 := fun n m => cmp_any base h 1 x.natAbs X.natAbs v ((w.drewN n).drewN m) hN (show One ((w.drewN n).drewN m) h 1 x.natAbs from ⟨hO.blk, hO.cap, hO.pos, hO.lt⟩)
  have hr : cmpI X.natAbs x.natAbs < 0 := by
    unfold cmpI
    rw [if_pos hX]; decide
  have hY : (X + x).natAbs = (x.natAbs - X.natAbs) ∧ decide (X + x < 0) = (decide (0 < (x.natAbs - X.natAbs)) && !decide (X < 0)) := by
    by_cases h1 : X < 0
    · have h2 : ¬ x < 0 := of_decide_eq_false (by rw [hs, decide_eq_true h1]; rfl)
      rw [decide_eq_true h1]
      refine ⟨by omega, ?_⟩
      simp
      omega
    · have h2 : x < 0 := of_decide_eq_true (by rw [hs, decide_eq_false h1]; rfl)
      rw [decide_eq_false h1]
      refine ⟨by omega, ?_⟩
      simp
      omega
  obtain ⟨A, n, c, rfl, _⟩ := hN.form
  have c0 : w.cell? ⟨gs, 0, none⟩ = some (.bool (decide (X < 0))) := by unfold World.cell?; rw [hg]; rfl
  have c1 : w.cell? ⟨gs, 1, none⟩ = some (.slice A n c) := by unfold World.cell?; rw [hg]; rfl
  have c2 : w.cell? ⟨gy, 0, none⟩ = some (.bool (decide (x < 0))) := by unfold World.cell?; rw [hgy]; rfl
  have c3 : w.cell? ⟨gy, 1, none⟩ = some (.slice (some ⟨h, 0, none⟩) 1 1) := by unfold World.cell?; rw [hgy]; rfl
  rw [hs] at c2
  have HG := Lib.hid hg; have HVB := Lib.hid hvb; have HY := Lib.hid hY
  have hgl : gs < w.heap.size := World.block_lt_of_cell? w _ c0
  have HC2 := Lib.hid (show ∀ n1 w1 w2, w.drewN n1 = w1 → ∀ {m : Nat}, (w1.drewN m).grownBy w2 (Value.slice A n c).ownBlock → ∃ z, w2.heap[gs]? = some (.cells #[.bool z, .slice A n c] 48 (0, 0)) from fun n1 w1 w2 hw m hgr => by subst hw; exact ⟨_, (hgr.block gs hgl (fun e => hvb e.symm)).trans hg⟩)
  clear hg hvb hY hN hgy hO hp hs hX
  generalize (x.natAbs - X.natAbs) = N at *
  generalize cmpI X.natAbs x.natAbs = r at *
  generalize decide (X < 0) = b at *
  generalize X + x = Y at *
  go_enter Tryz.func25, Tryz.ntmps25
  go_wp2
  go_quiet (fail)
  generalize hw1 : w.drewN nq = w1
  have k0 : w1.cell? ⟨gs, 0, none⟩ = some (.bool b) := by rw [← hw1]; exact c0
  have k1 : w1.cell? ⟨gs, 1, none⟩ = some (.slice A n c) := by rw [← hw1]; exact c1
  have k3 : w1.cell? ⟨gy, 1, none⟩ = some (.slice (some ⟨h, 0, none⟩) 1 1) := by rw [← hw1]; exact c3
  have b1 : ∀ m, Calls Tryz.prog 50 #[.slice A n c, .slice (some ⟨h, 0, none⟩) 1 1, .slice A n c] (w1.drewN m) (SetPost base (Value.slice A n c).ownBlock N (w1.drewN m)) := by rw [← hw1]; exact fun m => a1 nq m
  have b2 : ∀ m, Calls Tryz.prog 49 #[.slice A n c, .slice (some ⟨h, 0, none⟩) 1 1] (w1.drewN m) (fun e w' => e = .returned (.int .i64 r) ∧ ∃ k, w' = (w1.drewN m).drewN k) := by rw [← hw1]; exact fun m => a3 nq m
  have HW := Lib.hid hw1
  clear a1 a2 a3 hw1 c0 c1 c2 c3
  go_wp2
  go_quiet ((first | (go_at_call 49; exact Calls.quiet_of (b2 _))))
  go_wp2_with fail
  go_region_with (go_at_call 50; refine (b1 _).mono ?_; rintro e w2 ⟨v', rfl, hN2, hgr, hat⟩; obtain ⟨A2, n2, d2, rfl, hn2⟩ := hN2.form; obtain ⟨z, hz⟩ := HC2.out _ _ _ HW.out hgr; obtain ⟨q1, q2⟩ := cells_57 hz)
  all_goals
    obtain ⟨r0, r0f, r1⟩ := cells_set hz (.slice A2 n2 d2)
    have HN2 := Lib.hid hN2; have HGR := Lib.hid hgr; have HAT := Lib.hid hat
    clear b1 b2 hN2 hgr hat hz q1 q2
    cases hq : decide ((0 : Int) < (n2 : Int)) with
    | true =>
      have hn3 := of_decide_eq_true hq
      have HQ := Lib.hid (show decide (0 < N) = true from decide_eq_true (by omega))
      clear hn2
      go_wp2
      go_ret
      exact AddPost.fin HG.out HVB.out HN2.out HGR.out ⟨_, by rw [← HW.out, World.drewN_drewN]⟩ HAT.out HY.out.1 (by rw [HY.out.2, HQ.out]; rfl)
    | false =>
      have hn3 : ¬ (0 : Int) < (n2 : Int) := of_decide_eq_false hq
      have HQ := Lib.hid (show decide (0 < N) = false from decide_eq_false (by omega))
      clear hn2
      go_wp2
      go_ret
      exact AddPost.fin HG.out HVB.out HN2.out HGR.out ⟨_, by rw [← HW.out, World.drewN_drewN]⟩ HAT.out HY.out.1 (by rw [HY.out.2, HQ.out]; rfl)

theorem bigAdd_any (base gs h gy : Nat) (X x : Int) (v : Value) (w : World) (hg : w.heap[gs]? = some (.cells #[.bool (decide (X < 0)), v] 48 (0, 0))) (hN : Nv w base v X.natAbs)
    (hgy : w.heap[gy]? = some (.cells #[.bool (decide (x < 0)), .slice (some ⟨h, 0, none⟩) 1 1] 48 (0, 0))) (hO : One w h 1 x.natAbs) (hne : v.ownBlock ≠ some h) (hb : base ≤ w.heap.size) (hX : X.natAbs + x.natAbs < 340282366920938463463374607431768211456) :
    Calls Tryz.prog 25 #[.pointer (some ⟨gs, 0, none⟩), .pointer (some ⟨gs, 0, none⟩), .pointer (some ⟨gy, 0, none⟩)] w (AddPost base gs v (X + x) w) := by
  by_cases hs : decide (X < 0) = decide (x < 0)
  · exact bigAdd_same base gs h gy X x v w hg hN hgy hO hne hb hX hs
  · have hs2 : decide (x < 0) = !decide (X < 0) := by
      cases h1 : decide (X < 0) <;> cases h2 : decide (x < 0) <;> simp_all
    rcases Nat.lt_or_ge X.natAbs x.natAbs with h1 | h1
    · exact bigAdd_less base gs h gy X x v w hg hN hgy hO hne hb h1 hs2
    · exact bigAdd_more base gs h gy X x v w hg hN hgy hO hne h1 hs2
end Go.Proofs.YthkobjbemmllfaaGreatDoor
