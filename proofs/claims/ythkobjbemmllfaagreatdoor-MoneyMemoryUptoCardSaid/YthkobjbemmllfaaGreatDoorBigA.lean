/- math/big: Int.Add onto its first argument, of one word: walked. -/
import Derived.Test.YthkobjbemmllfaaGreatDoorBig8
namespace Go.Proofs.YthkobjbemmllfaaGreatDoor
open Go.RowKit

/-- Block g is the whole number X; its words lie from base on. -/
def Big (w : World) (base g : Nat) (X : Int) : Prop := ∃ v, w.heap[g]? = some (.cells #[.bool (decide (X < 0)), v] 48 (0, 0)) ∧ Nv w base v X.natAbs
theorem Nv.drewN {w : World} {base M : Nat} {v : Value} (h : Nv w base v M) (n : Nat) : Nv (w.drewN n) base v M := h
theorem Nv.block {w : World} {base M k : Nat} {v : Value} (h : Nv w base v M) (hk : v.ownBlock = some k) : base ≤ k ∧ k < w.heap.size ∧ ∃ cur, w.heap[k]? = some (.cells cur 66 (0, 0)) := by
  rcases h with ⟨rfl, _⟩ | ⟨g, n, c, f, rfl, hg, hB, _⟩
  · cases hk
  · obtain rfl : g = k := Option.some.inj hk
    obtain ⟨cur, h1, _⟩ := hB
    refine ⟨hg, ?_, cur, h1⟩
    rcases Nat.lt_or_ge g w.heap.size with h | h
    · exact h
    · rw [Array.getElem?_eq_none h] at h1; cases h1
theorem Nv.keep {w w' : World} {base M : Nat} {v : Value} (h : Nv w base v M) (hb : ∀ k, v.ownBlock = some k → w'.heap[k]? = w.heap[k]?) : Nv w' base v M := by
  rcases h with h | ⟨g, n, c, f, rfl, hg, hB, rest⟩
  · exact .inl h
  · exact .inr ⟨g, n, c, f, rfl, hg, hB.keep (hb g rfl), rest⟩
theorem Nv.form {w : World} {base M : Nat} {v : Value} (h : Nv w base v M) : ∃ A n c, v = .slice A n c ∧ (n = 0 ↔ M = 0) := by
  rcases h with ⟨rfl, rfl⟩ | ⟨g, n, c, f, rfl, hg, hB, hc, hc1, hn, ⟨rfl, rfl⟩ | ⟨rfl, rfl, h3, h4⟩ | ⟨rfl, rfl, h3, h4, h5⟩⟩
  · exact ⟨_, 0, _, rfl, by simp⟩
  · exact ⟨_, 0, _, rfl, by simp⟩
  · exact ⟨_, 1, _, rfl, by omega⟩
  · exact ⟨_, 2, _, rfl, by omega⟩

set_option maxRecDepth 100000 in
set_option maxHeartbeats 1000000 in
theorem newInt_any (x : Int) (w : World) (h0 : x ≠ 0) (h1 : -9223372036854775808 ≤ x) (h2 : x ≤ 9223372036854775807) :
    Calls Tryz.prog 19 #[.int .i64 x] w fun e w' => e = .returned (.pointer (some ⟨w.heap.size + 1, 0, none⟩)) ∧ w' = (w.alloc (.cells #[.int .u64 (x.natAbs : Nat)] 66)).alloc (.cells #[.bool (decide (x < 0)), .slice (some ⟨w.heap.size, 0, none⟩) 1 1] 48) := by
  have hz : (x == 0) = false := by simpa using h0
  cases hn : decide (x < 0) with
  | true =>
    have hn2 := of_decide_eq_true hn
    have e1 : IntKind.u64.wrap (-(IntKind.u64.wrap x)) = ((x.natAbs : Nat) : Int) := by rw [IntKind.wrap_u64, IntKind.wrap_u64]; omega
    have e2 : IntKind.u64.wrap x = x + 18446744073709551616 := by rw [IntKind.wrap_u64]; omega
    rw [e2] at e1
    generalize x.natAbs = m at *
    go_enter Tryz.func19, Tryz.ntmps19
    go_wp2
    go_ret
    exact ⟨rfl, rfl⟩
  | false =>
    have hn2 := of_decide_eq_false hn
    have e1 : IntKind.u64.wrap x = ((x.natAbs : Nat) : Int) := by rw [IntKind.wrap_u64]; omega
    generalize x.natAbs = m at *
    go_enter Tryz.func19, Tryz.ntmps19
    go_wp2
    go_ret
    exact ⟨rfl, rfl⟩
/-- -1, 0 or 1. -/
def sgn (X : Int) : Int := if X = 0 then 0 else if X < 0 then -1 else 1
end Go.Proofs.YthkobjbemmllfaaGreatDoor
namespace Go.Proofs.YthkobjbemmllfaaGreatDoor
open Go.RowKit

theorem cells_57 {w : World} {g : Nat} {z : Bool} {v : Value} (h : w.heap[g]? = some (.cells #[.bool z, v] 48 (0, 0))) : (w.cell? ⟨g, 1, none⟩ = some v) ∧ w.frozen? ⟨g, 1, none⟩ = false := by
  exact ⟨by unfold World.cell?; rw [h]; rfl, by unfold World.frozen?; rw [h]; rfl⟩
theorem cells_set {w : World} {g : Nat} {z : Bool} {v : Value} (h : w.heap[g]? = some (.cells #[.bool z, v] 48 (0, 0))) (v' : Value) : (w.setCell ⟨g, 1, none⟩ v').cell? ⟨g, 0, none⟩ = some (.bool z) ∧ (w.setCell ⟨g, 1, none⟩ v').frozen? ⟨g, 0, none⟩ = false ∧ (w.setCell ⟨g, 1, none⟩ v').cell? ⟨g, 1, none⟩ = some v' := by
  have h3 : (w.setCell ⟨g, 1, none⟩ v').heap[g]? = some (.cells #[.bool z, v'] 48 (0, 0)) := by
    show (w.heap.modify g _)[g]? = _
    rw [Array.getElem?_modify, if_pos rfl, h]
    rfl
  exact ⟨by unfold World.cell?; rw [h3]; rfl, by unfold World.frozen?; rw [h3]; rfl, by unfold World.cell?; rw [h3]; rfl⟩
/-- What Add leaves. -/
def AddPost (base gs : Nat) (v : Value) (Y : Int) (w : World) (e : Ending) (w' : World) : Prop :=
  ∃ v', e = .returned (.pointer (some ⟨gs, 0, none⟩)) ∧ w'.heap[gs]? = some (.cells #[.bool (decide (Y < 0)), v'] 48 (0, 0)) ∧ Nv w' base v' Y.natAbs ∧
    (w'.os = w.os ∧ w'.tape = w.tape ∧ w'.output = w.output ∧ w.heap.size ≤ w'.heap.size ∧ ∀ k, k < w.heap.size → k ≠ gs → some k ≠ v.ownBlock → w'.heap[k]? = w.heap[k]?) ∧ (v'.ownBlock = v.ownBlock ∨ ∃ k, v'.ownBlock = some k ∧ w.heap.size ≤ k)
theorem AddPost.fin {base gs N : Nat} {v v' : Value} {Y : Int} {b b' : Bool} {w w1 w2 : World} (hg : w.heap[gs]? = some (.cells #[.bool b, v] 48 (0, 0))) (hvb : v.ownBlock ≠ some gs)
    (hN : Nv w2 base v' N) (hgr : w1.grownBy w2 v.ownBlock) (h1 : ∃ n, w1 = w.drewN n) (hat : v'.ownBlock = v.ownBlock ∨ ∃ k, v'.ownBlock = some k ∧ w1.heap.size ≤ k) (hY : Y.natAbs = N) (hb : b' = decide (Y < 0)) :
    AddPost base gs v Y w (.returned (.pointer (some ⟨gs, 0, none⟩))) ((w2.setCell ⟨gs, 1, none⟩ v').setCell ⟨gs, 0, none⟩ (.bool b')) := by
  obtain ⟨n, rfl⟩ := h1
  have hgl : gs < w.heap.size := by
    rcases Nat.lt_or_ge gs w.heap.size with h | h
    · exact h
    · rw [Array.getElem?_eq_none h] at hg; cases hg
  have h2 : w2.heap[gs]? = some (.cells #[.bool b, v] 48 (0, 0)) := (hgr.block gs hgl (fun e => hvb e.symm)).trans hg
  have h3 : (w2.setCell ⟨gs, 1, none⟩ v').heap[gs]? = some (.cells #[.bool b, v'] 48 (0, 0)) := by
    show (w2.heap.modify gs _)[gs]? = _
    rw [Array.getElem?_modify, if_pos rfl, h2]
    rfl
  have h4 : ((w2.setCell ⟨gs, 1, none⟩ v').setCell ⟨gs, 0, none⟩ (.bool b')).heap[gs]? = some (.cells #[.bool b', v'] 48 (0, 0)) := by
    show ((w2.setCell ⟨gs, 1, none⟩ v').heap.modify gs _)[gs]? = _
    rw [Array.getElem?_modify, if_pos rfl, h3]
    rfl
  have hoth : ∀ k, k ≠ gs → ((w2.setCell ⟨gs, 1, none⟩ v').setCell ⟨gs, 0, none⟩ (.bool b')).heap[k]? = w2.heap[k]? := fun k hk => (Below.heap_setCell _ ⟨gs, 0, none⟩ _ k hk).trans (Below.heap_setCell w2 ⟨gs, 1, none⟩ _ k hk)
  refine ⟨v', rfl, by rw [h4, hb], ?_, ⟨hgr.os, hgr.tape, hgr.output, ?_, fun k hk h5 h6 => (hoth k h5).trans (hgr.block k hk h6)⟩, hat⟩
  · rw [hY]
    refine hN.keep fun k hk => hoth k fun e => ?_
    subst e
    obtain ⟨_, _, cur, hc⟩ := hN.block hk
    rw [h2] at hc
    injection hc with hc
    injection hc with _ hc _
    cases hc
  · have := hgr.size
    simp [World.setCell]
    exact this

set_option maxRecDepth 100000 in
set_option maxHeartbeats 4000000 in
theorem bigAdd_same (base gs h gy : Nat) (X x : Int) (v : Value) (w : World) (hg : w.heap[gs]? = some (.cells #[.bool (decide (X < 0)), v] 48 (0, 0))) (hN : Nv w base v X.natAbs)
    (hgy : w.heap[gy]? = some (.cells #[.bool (decide (x < 0)), .slice (some ⟨h, 0, none⟩) 1 1] 48 (0, 0))) (hO : One w h 1 x.natAbs) (hne : v.ownBlock ≠ some h) (hb : base ≤ w.heap.size) (hX : X.natAbs + x.natAbs < 340282366920938463463374607431768211456) (hs : decide (X < 0) = decide (x < 0)) :
    Calls Tryz.prog 25 #[.pointer (some ⟨gs, 0, none⟩), .pointer (some ⟨gs, 0, none⟩), .pointer (some ⟨gy, 0, none⟩)] w (AddPost base gs v (X + x) w) := by
  have a1 := fun n => add_any base h 1 x.natAbs X.natAbs v (w.drewN n) hN (show One (w.drewN n) h 1 x.natAbs from ⟨hO.blk, hO.cap, hO.pos, hO.lt⟩) hne hb hX
  have hvb : v.ownBlock ≠ some gs := fun e => by
    obtain ⟨_, _, cur, hc⟩ := hN.block e
    rw [hg] at hc
    injection hc with hc
    injection hc with _ hc _
    cases hc
  have hp := hO.pos
  have hY : (X + x).natAbs = X.natAbs + x.natAbs ∧ decide (X + x < 0) = decide (X < 0) := by
    by_cases h1 : X < 0
    · have h2 : x < 0 := of_decide_eq_true (by rw [← hs]; exact decide_eq_true h1)
      exact ⟨by omega, by rw [decide_eq_true h1, decide_eq_true (by omega)]⟩
    · have h2 : ¬ x < 0 := of_decide_eq_false (by rw [← hs]; exact decide_eq_false h1)
      exact ⟨by omega, by rw [decide_eq_false h1, decide_eq_false (by omega)]⟩
  obtain ⟨A, n, c, rfl, _⟩ := hN.form
  have c0 : w.cell? ⟨gs, 0, none⟩ = some (.bool (decide (X < 0))) := by unfold World.cell?; rw [hg]; rfl
  have c1 : w.cell? ⟨gs, 1, none⟩ = some (.slice A n c) := by unfold World.cell?; rw [hg]; rfl
  have c2 : w.cell? ⟨gy, 0, none⟩ = some (.bool (decide (x < 0))) := by unfold World.cell?; rw [hgy]; rfl
  have c3 : w.cell? ⟨gy, 1, none⟩ = some (.slice (some ⟨h, 0, none⟩) 1 1) := by unfold World.cell?; rw [hgy]; rfl
  rw [← hs] at c2
  have HG := Lib.hid hg; have HVB := Lib.hid hvb; have HY := Lib.hid hY
  have hgl : gs < w.heap.size := World.block_lt_of_cell? w _ c0
  have HP := Lib.hid (show 0 < X.natAbs + x.natAbs by omega)
  have HC2 := Lib.hid (show ∀ n2 w2, (w.drewN n2).grownBy w2 (Value.slice A n c).ownBlock → ∃ z, w2.heap[gs]? = some (.cells #[.bool z, .slice A n c] 48 (0, 0)) from fun n2 w2 hgr => ⟨_, (hgr.block gs hgl (fun e => hvb e.symm)).trans hg⟩)
  clear hg hvb hY hN hgy hO hp hs hX
  generalize X.natAbs + x.natAbs = N at *
  generalize decide (X < 0) = b at *
  generalize X + x = Y at *
  go_enter Tryz.func25, Tryz.ntmps25
  go_wp2
  go_quiet (fail)
  go_wp2_with fail
  go_region_with (go_at_call 48; refine (a1 _).mono ?_; rintro e w2 ⟨v', rfl, hN2, hgr, hat⟩; obtain ⟨A2, n2, d2, rfl, hn2⟩ := hN2.form; obtain ⟨z, hz⟩ := HC2.out _ _ hgr; obtain ⟨q1, q2⟩ := cells_57 hz)
  all_goals
    have hn3 : (0 : Int) < (n2 : Int) := by have := HP.out; omega
    obtain ⟨r0, r0f, r1⟩ := cells_set hz (.slice A2 n2 d2)
    have HN2 := Lib.hid hN2; have HGR := Lib.hid hgr; have HAT := Lib.hid hat
    clear a1 hN2 hgr hat hn2 hz q1 q2
    go_wp2
    go_ret
    exact AddPost.fin HG.out HVB.out HN2.out HGR.out ⟨_, rfl⟩ HAT.out HY.out.1 HY.out.2.symm
end Go.Proofs.YthkobjbemmllfaaGreatDoor
