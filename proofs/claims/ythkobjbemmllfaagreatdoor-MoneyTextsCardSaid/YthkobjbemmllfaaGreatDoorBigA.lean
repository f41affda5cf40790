/- math/big: Int.Add onto its first argument, of one word: walked. -/
import Derived.Test.YthkobjbemmllfaaGreatDoorBig9
namespace Go.Proofs.YthkobjbemmllfaaGreatDoor
open Go.RowKit

theorem cells_57 {w : World} {g : Nat} {z : Bool} {v : Value} (h : w.heap[g]? = some (.cells #[.bool z, v] 46 (0, 0))) : (w.cell? ⟨g, 1, none⟩ = some v) ∧ w.frozen? ⟨g, 1, none⟩ = false := by
  exact ⟨by unfold World.cell?; rw [h]; rfl, by unfold World.frozen?; rw [h]; rfl⟩
theorem cells_set {w : World} {g : Nat} {z : Bool} {v : Value} (h : w.heap[g]? = some (.cells #[.bool z, v] 46 (0, 0))) (v' : Value) : (w.setCell ⟨g, 1, none⟩ v').cell? ⟨g, 0, none⟩ = some (.bool z) ∧ (w.setCell ⟨g, 1, none⟩ v').frozen? ⟨g, 0, none⟩ = false ∧ (w.setCell ⟨g, 1, none⟩ v').cell? ⟨g, 1, none⟩ = some v' := by
  have h3 : (w.setCell ⟨g, 1, none⟩ v').heap[g]? = some (.cells #[.bool z, v'] 46 (0, 0)) := by
    show (w.heap.modify g _)[g]? = _
    rw [Array.getElem?_modify, if_pos rfl, h]
    rfl
  exact ⟨by unfold World.cell?; rw [h3]; rfl, by unfold World.frozen?; rw [h3]; rfl, by unfold World.cell?; rw [h3]; rfl⟩
/-- What Add leaves. -/
def AddPost (base gs : Nat) (v : Value) (Y : Int) (w : World) (e : Ending) (w' : World) : Prop :=
  ∃ v', e = .returned (.pointer (some ⟨gs, 0, none⟩)) ∧ w'.heap[gs]? = some (.cells #[.bool (decide (Y < 0)), v'] 46 (0, 0)) ∧ Nv w' base v' Y.natAbs ∧
    (w'.os = w.os ∧ w'.tape = w.tape ∧ w'.output = w.output ∧ w.heap.size ≤ w'.heap.size ∧ ∀ k, k < w.heap.size → k ≠ gs → some k ≠ v.ownBlock → w'.heap[k]? = w.heap[k]?) ∧ (v'.ownBlock = v.ownBlock ∨ ∃ k, v'.ownBlock = some k ∧ w.heap.size ≤ k)
theorem AddPost.fin {base gs N : Nat} {v v' : Value} {Y : Int} {b b' : Bool} {w w1 w2 : World} (hg : w.heap[gs]? = some (.cells #[.bool b, v] 46 (0, 0))) (hvb : v.ownBlock ≠ some gs)
    (hN : Nv w2 base v' N) (hgr : w1.grownBy w2 v.ownBlock) (h1 : ∃ n, w1 = w.drewN n) (hat : v'.ownBlock = v.ownBlock ∨ ∃ k, v'.ownBlock = some k ∧ w1.heap.size ≤ k) (hY : Y.natAbs = N) (hb : b' = decide (Y < 0)) :
    AddPost base gs v Y w (.returned (.pointer (some ⟨gs, 0, none⟩))) ((w2.setCell ⟨gs, 1, none⟩ v').setCell ⟨gs, 0, none⟩ (.bool b')) := by
  obtain ⟨n, rfl⟩ := h1
  have hgl : gs < w.heap.size := by
    rcases Nat.lt_or_ge gs w.heap.size with h | h
    · exact h
    · rw [Array.getElem?_eq_none h] at hg; cases hg
  have h2 : w2.heap[gs]? = some (.cells #[.bool b, v] 46 (0, 0)) := (hgr.block gs hgl (fun e => hvb e.symm)).trans hg
  have h3 : (w2.setCell ⟨gs, 1, none⟩ v').heap[gs]? = some (.cells #[.bool b, v'] 46 (0, 0)) := by
    show (w2.heap.modify gs _)[gs]? = _
    rw [Array.getElem?_modify, if_pos rfl, h2]
    rfl
  have h4 : ((w2.setCell ⟨gs, 1, none⟩ v').setCell ⟨gs, 0, none⟩ (.bool b')).heap[gs]? = some (.cells #[.bool b', v'] 46 (0, 0)) := by
    show ((w2.setCell ⟨gs, 1, none⟩ v').heap.modify gs _)[gs]? = _
    rw [Array.getElem?_modify, if_pos rfl, h3]
    rfl
  have hoth : ∀ k, k ≠ gs → ((w2.setCell ⟨gs, 1, none⟩ v').setCell ⟨gs, 0, none⟩ (.bool b')).heap[k]? = w2.heap[k]? := fun k hk => (Below.heap_setCell _ ⟨gs, 0, none⟩ _ k hk).trans (Below.heap_setCell w2 ⟨gs, 1, none⟩ _ k hk)
  refine ⟨v', rfl, by rw [h4, hb], ?_, ⟨hgr.os, hgr.tape, hgr.output, ?_, fun k hk h5 h6 => (hoth k h5).trans (hgr.block k hk h6)⟩, hat⟩
  · rw [hY]
    refine hN.keep fun k hk => hoth k fun e => ?_
    subst e
    obtain ⟨_, _, cur, hc⟩ := hN.block hk
    rw [h2] at hc
    injection hc with hc
    injection hc with _ hc _
    cases hc
  · have := hgr.size
    simp [World.setCell]
    exact this

set_option maxRecDepth 100000 in
set_option maxHeartbeats 4000000 in
theorem bigAdd_same (base gs h gy : Nat) (X x : Int) (v : Value) (w : World) (hg : w.heap[gs]? = some (.cells #[.bool (decide (X < 0)), v] 46 (0, 0))) (hN : Nv w base v X.natAbs)
    (hgy : w.heap[gy]? = some (.cells #[.bool (decide (x < 0)), .slice (some ⟨h, 0, none⟩) 1 1] 46 (0, 0))) (hO : One w h 1 x.natAbs) (hne : v.ownBlock ≠ some h) (hb : base ≤ w.heap.size) (hX : X.natAbs + x.natAbs < 340282366920938463463374607431768211456) (hs : decide (X < 0) = decide (x < 0)) :
    Calls Tryz.prog 22 #[.pointer (some ⟨gs, 0, none⟩), .pointer (some ⟨gs, 0, none⟩), .pointer (some ⟨gy, 0, none⟩)] w (AddPost base gs v (X + x) w) := by
  have a1 := fun n => add_any base h 1 x.natAbs X.natAbs v (w.drewN n) hN (show One (w.drewN n) h 1 x.natAbs from ⟨hO.blk, hO.cap, hO.pos, hO.lt⟩) hne hb hX
  have hvb : v.ownBlock ≠ some gs := fun e => by
    obtain ⟨_, _, cur, hc⟩ := hN.block e
    rw [hg] at hc
    injection hc with hc
    injection hc with _ hc _
    cases hc
  have hp := hO.pos
  have hY : (X + x).natAbs = X.natAbs + x.natAbs ∧ decide (X + x < 0) = decide (X < 0) := by
    by_cases h1 : X < 0
    · have h2 : x < 0 := of_decide_eq_true (by rw [← hs]; exact decide_eq_true h1)
      exact ⟨by omega, by rw [decide_eq_true h1, decide_eq_true (by omega)]⟩
    · have h2 : ¬ x < 0 := of_decide_eq_false (by rw [← hs]; exact decide_eq_false h1)
      exact ⟨by omega, by rw [decide_eq_false h1, decide_eq_false (by omega)]⟩
  obtain ⟨A, n, c, rfl, _⟩ := hN.form
  have c0 : w.cell? ⟨gs, 0, none⟩ = some (.bool (decide (X < 0))) := by unfold World.cell?; rw [hg]; rfl
  have c1 : w.cell? ⟨gs, 1, none⟩ = some (.slice A n c) := by unfold World.cell?; rw [hg]; rfl
  have c2 : w.cell? ⟨gy, 0, none⟩ = some (.bool (decide (x < 0))) := by unfold World.cell?; rw [hgy]; rfl
  have c3 : w.cell? ⟨gy, 1, none⟩ = some (.slice (some ⟨h, 0, none⟩) 1 1) := by unfold World.cell?; rw [hgy]; rfl
  rw [← hs] at c2
  have HG := Lib.hid hg; have HVB := Lib.hid hvb; have HY := Lib.hid hY
  have hgl : gs < w.heap.size := World.block_lt_of_cell? w _ c0
  have HP := Lib.hid (show 0 < X.natAbs + x.natAbs by omega)
  have HC2 := Lib.hid (show ∀ n2 w2, (w.drewN n2).grownBy w2 (Value.slice A n c).ownBlock → ∃ z, w2.heap[gs]? = some (.cells #[.bool z, .slice A n c] 46 (0, 0)) from fun n2 w2 hgr => ⟨_, (hgr.block gs hgl (fun e => hvb e.symm)).trans hg⟩)
  clear hg hvb hY hN hgy hO hp hs hX
  generalize X.natAbs + x.natAbs = N at *
  generalize decide (X < 0) = b at *
  generalize X + x = Y at *
  go_enter Tryz.func22, Tryz.ntmps22
  go_wp2
  go_quiet (fail)
  go_wp2_with fail
  go_region_with (go_at_call 51; refine (a1 _).mono ?_; rintro e w2 ⟨v', rfl, hN2, hgr, hat⟩; obtain ⟨A2, n2, d2, rfl, hn2⟩ := hN2.form; obtain ⟨z, hz⟩ := HC2.out _ _ hgr; obtain ⟨q1, q2⟩ := cells_57 hz)
  all_goals
    have hn3 : (0 : Int) < (n2 : Int) := by have := HP.out; omega
    obtain ⟨r0, r0f, r1⟩ := cells_set hz (.slice A2 n2 d2)
    have HN2 := Lib.hid hN2; have HGR := Lib.hid hgr; have HAT := Lib.hid hat
    clear a1 hN2 hgr hat hn2 hz q1 q2
    go_wp2
    go_ret
    exact AddPost.fin HG.out HVB.out HN2.out HGR.out ⟨_, rfl⟩ HAT.out HY.out.1 HY.out.2.symm
end Go.Proofs.YthkobjbemmllfaaGreatDoor
