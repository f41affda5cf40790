/- math/big: IsInt64; money.fits; Int.Add of any int64 onto its first argument: walked. -/
import Derived.Test.YthkobjbemmllfaaGreatDoorBigG
namespace Go.Proofs.YthkobjbemmllfaaGreatDoor
open Go.RowKit

/-- What fits answers: the number, or 0, and the error's number. -/
def fits64 (X : Int) : Prop := -9223372036854775808 ≤ X ∧ X ≤ 9223372036854775807
instance (X : Int) : Decidable (fits64 X) := by unfold fits64; exact inferInstance
def fv (X : Int) : Int := if fits64 X then X else 0
def fn (X : Int) : Nat := if fits64 X then 0 else 10

theorem nv_len {w : World} {base M : Nat} {v : Value} (hN : Nv w base v M) : ∃ A n c, v = .slice A n c ∧ (n ≤ 1 ↔ M < 18446744073709551616) ∧ n ≤ 2 := by
  rcases hN with ⟨rfl, rfl⟩ | ⟨g, n, c, f, rfl, hg, hB, hc, hc1, hn, ⟨rfl, rfl⟩ | ⟨rfl, rfl, h3, h4⟩ | ⟨rfl, rfl, h3, h4, h5⟩⟩
  · exact ⟨_, 0, _, rfl, by omega, by decide⟩
  · exact ⟨_, 0, _, rfl, by omega, by decide⟩
  · exact ⟨_, 1, _, rfl, by omega, by decide⟩
  · exact ⟨_, 2, _, rfl, by omega, by decide⟩

set_option maxRecDepth 100000 in
theorem isInt64_any (base g : Nat) (X : Int) (v : Value) (w : World) (hg : w.heap[g]? = some (.cells #[.bool (decide (X < 0)), v] 48 (0, 0))) (hN : Nv w base v X.natAbs) :
    Calls Tryz.prog 51 #[.pointer (some ⟨g, 0, none⟩)] w fun e w' => e = .returned (.bool (decide (fits64 X))) ∧ w = w' := by
  have a1 := low64_any base X.natAbs v w hN
  have c0 : w.cell? ⟨g, 0, none⟩ = some (.bool (decide (X < 0))) := by unfold World.cell?; rw [hg]; rfl
  have c1 : w.cell? ⟨g, 1, none⟩ = some v := by unfold World.cell?; rw [hg]; rfl
  obtain ⟨A, n, c, rfl, hn, hn2⟩ := nv_len hN
  by_cases h1 : n ≤ 1
  · have hM := hn.1 h1
    rw [Nat.mod_eq_of_lt hM] at a1
    have q0 : (n : Int) ≤ 1 := by omega
    by_cases h2 : X.natAbs < 9223372036854775808
    · have e1 : IntKind.i64.wrap ((X.natAbs : Nat) : Int) = ((X.natAbs : Nat) : Int) := by simp only [IntKind.wrap_i64]; omega
      have e2 : decide (fits64 X) = true := decide_eq_true ⟨by omega, by omega⟩
      rw [e2]
      clear hg hN hn hn2 h1 hM e2 h2
      generalize X.natAbs = m at *
      generalize decide (X < 0) = b at *
      go_enter Tryz.func51, Tryz.ntmps51
      go_wp2_with fail
      refine a1.mono ?_
      rintro e w' ⟨rfl, rfl⟩
      clear a1
      go_wp2
      go_ret
      exact ⟨rfl, rfl⟩
    · obtain ⟨q, hq⟩ : ∃ q, q = IntKind.i64.wrap ((X.natAbs : Nat) : Int) := ⟨_, rfl⟩
      have hq2 : q = (X.natAbs : Int) - 18446744073709551616 := by rw [hq]; simp only [IntKind.wrap_i64]; omega
      have q1 : decide (0 ≤ q) = false := decide_eq_false (by omega)
      by_cases h3 : X < 0
      · rw [decide_eq_true h3] at c0
        obtain ⟨r, hr⟩ : ∃ r, r = IntKind.i64.wrap (-q) := ⟨_, rfl⟩
        have e3 : (q == r) = decide (fits64 X) := by
          have : r = if X.natAbs = 9223372036854775808 then -9223372036854775808 else 18446744073709551616 - (X.natAbs : Int) := by rw [hr, hq2]; simp only [IntKind.wrap_i64]; split <;> omega
          by_cases h5 : X.natAbs = 9223372036854775808
          · rw [if_pos h5] at this
            rw [decide_eq_true (show fits64 X from ⟨by omega, by omega⟩), this, hq2, h5]; rfl
          · rw [if_neg h5] at this
            rw [decide_eq_false (show ¬ fits64 X from fun h => by have := h.1; omega), this, hq2]
            exact beq_eq_false_iff_ne.2 (by omega)
        rw [← e3]
        have e1 := hq.symm
        have e2 := hr.symm
        have HQ := Lib.hid hq2
        clear hg hN hn hn2 h1 hM h2 hq hr e3 hq2 h3
        generalize X.natAbs = m at *
        go_enter Tryz.func51, Tryz.ntmps51
        go_wp2_with fail
        refine a1.mono ?_
        rintro e w' ⟨rfl, rfl⟩
        clear a1
        go_wp2
        go_ret
        exact ⟨rfl, rfl⟩
      · rw [decide_eq_false h3] at c0
        have e2 : decide (fits64 X) = false := decide_eq_false (fun h => by have := h.2; omega)
        rw [e2]
        have e1 := hq.symm
        clear hg hN hn hn2 h1 hM h2 hq hq2 h3 e2
        generalize X.natAbs = m at *
        go_enter Tryz.func51, Tryz.ntmps51
        go_wp2_with fail
        refine a1.mono ?_
        rintro e w' ⟨rfl, rfl⟩
        clear a1
        go_wp2
        go_ret
        exact ⟨rfl, rfl⟩
  · obtain rfl : n = 2 := by omega
    have hM : 18446744073709551616 ≤ X.natAbs := by
      rcases Nat.lt_or_ge X.natAbs 18446744073709551616 with h | h
      · exact absurd (hn.2 h) h1
      · exact h
    have e2 : decide (fits64 X) = false := decide_eq_false (fun h => by have := h.1; have := h.2; omega)
    rw [e2]
    clear hg hN hn hn2 h1 hM e2 a1
    go_enter Tryz.func51, Tryz.ntmps51
    go_wp2
    go_ret
    exact ⟨rfl, rfl⟩

set_option maxRecDepth 100000 in
theorem fits_any (B : Nat → Addr) (base g : Nat) (X : Int) (v : Value) (w : World) (hE : Env w B) (hg : w.heap[g]? = some (.cells #[.bool (decide (X < 0)), v] 48 (0, 0))) (hN : Nv w base v X.natAbs) :
    Calls Tryz.prog 26 #[.pointer (some ⟨g, 0, none⟩)] w fun e w' => e = .returned (.tuple #[.int .i64 (fv X), ev B (fn X)]) ∧ ∃ k, w' = w.drewN k := by
  have a1 := isInt64_any base g X v w hg hN
  have a2 := int64_any base g X v w hg hN
  by_cases h : fits64 X
  · have e1 : IntKind.i64.wrap X = X := by have := h.1; have := h.2; simp only [IntKind.wrap_i64]; omega
    rw [e1] at a2
    rw [decide_eq_true h] at a1
    unfold fv fn
    rw [if_pos h, if_pos h, show ev B 0 = .nilIface from rfl]
    clear hg hN hE h e1
    go_enter Tryz.func26, Tryz.ntmps26
    go_wp2_with fail
    refine a1.mono ?_
    rintro e w' ⟨rfl, rfl⟩
    clear a1
    go_wp2_with fail
    refine a2.mono ?_
    rintro e w' ⟨rfl, rfl⟩
    clear a2
    go_wp2
    go_ret2
    exact ⟨rfl, 0, rfl⟩
  · rw [decide_eq_false h] at a1
    unfold fv fn
    rw [if_neg h, if_neg h, show ev B 10 = .iface 188 (.pointer (some (B 3))) from rfl]
    have c12 := hE.cell 3 (by decide)
    clear hg hN hE h a2
    go_enter Tryz.func26, Tryz.ntmps26
    go_wp2_with fail
    refine a1.mono ?_
    rintro e w' ⟨rfl, rfl⟩
    clear a1
    go_wp2
    go_quiet (fail)
    go_wp2
    go_ret2
    exact ⟨rfl, _, rfl⟩

theorem OpPost.add {base gs N : Nat} {v : Value} {neg : Bool} {Y : Int} {w w' : World} {e : Ending} (h : OpPost base gs v N neg w e w') (hN : N = Y.natAbs) (hn : neg = decide (Y < 0)) : AddPost base gs v Y w e w' := by
  obtain ⟨v', h1, h2, h3, h4, h5⟩ := h
  subst hN; subst hn
  exact ⟨v', h1, h2, h3, h4, h5⟩

/-- Int.Add of what NewInt made, onto the first argument. -/
theorem bigAddW (base gs gy : Nat) (X x : Int) (v yv : Value) (w : World) (hg : w.heap[gs]? = some (.cells #[.bool (decide (X < 0)), v] 48 (0, 0))) (hN : Nv w base v X.natAbs)
    (hgy : w.heap[gy]? = some (.cells #[.bool (decide (x < 0)), yv] 48 (0, 0))) (hW : W1 w yv x.natAbs) (hne : yv.ownBlock = none ∨ v.ownBlock ≠ yv.ownBlock) (hb : base ≤ w.heap.size) (hX : X.natAbs + x.natAbs < 340282366920938463463374607431768211456) :
    Calls Tryz.prog 25 #[.pointer (some ⟨gs, 0, none⟩), .pointer (some ⟨gs, 0, none⟩), .pointer (some ⟨gy, 0, none⟩)] w (AddPost base gs v (X + x) w) := by
  rcases hW with ⟨rfl, h0⟩ | ⟨h, rfl, o⟩
  · obtain rfl : x = 0 := by omega
    have hvb : v.ownBlock ≠ some gs := fun e => by
      obtain ⟨_, _, cur, hc⟩ := hN.block e
      rw [hg] at hc
      injection hc with hc
      injection hc with _ hc _
      cases hc
    obtain ⟨A, n, c, rfl, h1, _, _, _⟩ := hN.slice
    by_cases hX0 : X < 0
    · refine (intAdd_more base gs gs gy X.natAbs 1 (decide (X < 0)) (decide (X < 0)) (decide ((0 : Int) < 0)) A A none n c n c 0 0 w ⟨hg, hg, hgy, hvb⟩ (fun m => sub_nil base X.natAbs _ (w.drewN m) hN) (fun m => ?_) (by decide) (by rw [decide_eq_true hX0]; rfl)).mono fun e w' h => h.add (by rw [Int.add_zero]) (by rw [Int.add_zero, decide_eq_true hX0, decide_eq_true (show 0 < X.natAbs by omega)]; rfl)
      obtain ⟨n, rfl⟩ : ∃ k, n = k + 1 := ⟨n - 1, by
        have : n ≠ 0 := fun e => by have := h1.1 e; omega
        omega⟩
      exact (cmp_many_nil A n c (w.drewN m)).mono fun e w' ⟨h1, h2⟩ => ⟨h1, 0, h2⟩
    · exact (intAdd_same base gs gs gy X.natAbs (decide (X < 0)) (decide (X < 0)) (decide ((0 : Int) < 0)) A A none n c n c 0 0 w ⟨hg, hg, hgy, hvb⟩ (fun m => add_nil base X.natAbs _ (w.drewN m) hN) (by rw [decide_eq_false hX0]; rfl)).mono fun e w' h => h.add (by rw [Int.add_zero]) (by rw [Int.add_zero, decide_eq_false hX0, Bool.and_false])
  · refine bigAdd_any base gs h gy X x v w hg hN hgy o ?_ hb hX
    rcases hne with e | e
    · cases e
    · exact e
end Go.Proofs.YthkobjbemmllfaaGreatDoor
