/- math/big: IsInt64; money.fits; Int.Add of any int64 onto its first argument: walked. -/
import Derived.Test.YtikkocdbaekjmaaGreatDoorBigG
namespace Go.Proofs.YtikkocdbaekjmaaGreatDoor
open Go.RowKit

/-- What fits answers: the number, or 0, and the error's number. -/
def fits64 (X : Int) : Prop := -9223372036854775808 ≤ X ∧ X ≤ 9223372036854775807
instance (X : Int) : Decidable (fits64 X) := by unfold fits64; exact inferInstance
def fv (X : Int) : Int := if fits64 X then X else 0
def fn (X : Int) : Nat := if fits64 X then 0 else 10

theorem nv_len {w : World} {base M : Nat} {v : Value} (hN : Nv w base v M) : ∃ A n c, v = .slice A n c ∧ (n ≤ 1 ↔ M < 18446744073709551616) ∧ n ≤ 2 := by
  rcases hN with ⟨rfl, rfl⟩ | ⟨g, n, c, f, rfl, hg, hB, hc, hc1, hn, ⟨rfl, rfl⟩ | ⟨rfl, rfl, h3, h4⟩ | ⟨rfl, rfl, h3, h4, h5⟩⟩
  · exact ⟨_, 0, _, rfl, by omega, by decide⟩
  · exact ⟨_, 0, _, rfl, by omega, by decide⟩
  · exact ⟨_, 1, _, rfl, by omega, by decide⟩
  · exact ⟨_, 2, _, rfl, by omega, by decide⟩

theorem OpPost.add {base gs N : Nat} {v : Value} {neg : Bool} {Y : Int} {w w' : World} {e : Ending} (h : OpPost base gs v N neg w e w') (hN : N = Y.natAbs) (hn : neg = decide (Y < 0)) : AddPost base gs v Y w e w' := by
  obtain ⟨v', h1, h2, h3, h4, h5⟩ := h
  subst hN; subst hn
  exact ⟨v', h1, h2, h3, h4, h5⟩

/-- Int.Add of what NewInt made, onto the first argument. -/
theorem bigAddW (base gs gy : Nat) (X x : Int) (v yv : Value) (w : World) (hg : w.heap[gs]? = some (.cells #[.bool (decide (X < 0)), v] 80 (0, 0))) (hN : Nv w base v X.natAbs)
    (hgy : w.heap[gy]? = some (.cells #[.bool (decide (x < 0)), yv] 80 (0, 0))) (hW : W1 w yv x.natAbs) (hne : yv.ownBlock = none ∨ v.ownBlock ≠ yv.ownBlock) (hb : base ≤ w.heap.size) (hX : X.natAbs + x.natAbs < 340282366920938463463374607431768211456) :
    Calls Tryz.prog 37 #[.pointer (some ⟨gs, 0, none⟩), .pointer (some ⟨gs, 0, none⟩), .pointer (some ⟨gy, 0, none⟩)] w (AddPost base gs v (X + x) w) := by
  rcases hW with ⟨rfl, h0⟩ | ⟨h, rfl, o⟩
  · obtain rfl : x = 0 := by omega
    have hvb : v.ownBlock ≠ some gs := fun e => by
      obtain ⟨_, _, cur, hc⟩ := hN.block e
      rw [hg] at hc
      injection hc with hc
      injection hc with _ hc _
      cases hc
    obtain ⟨A, n, c, rfl, h1, _, _, _⟩ := hN.slice
    by_cases hX0 : X < 0
    · refine (intAdd_more base gs gs gy X.natAbs 1 (decide (X < 0)) (decide (X < 0)) (decide ((0 : Int) < 0)) A A none n c n c 0 0 w ⟨hg, hg, hgy, hvb⟩ (fun m => sub_nil base X.natAbs _ (w.drewN m) hN) (fun m => ?_) (by decide) (by rw [decide_eq_true hX0]; rfl)).mono fun e w' h => h.add (by rw [Int.add_zero]) (by rw [Int.add_zero, decide_eq_true hX0, decide_eq_true (show 0 < X.natAbs by omega)]; rfl)
      obtain ⟨n, rfl⟩ : ∃ k, n = k + 1 := ⟨n - 1, by
        have : n ≠ 0 := fun e => by have := h1.1 e; omega
        omega⟩
      exact (cmp_many_nil A n c (w.drewN m)).mono fun e w' ⟨h1, h2⟩ => ⟨h1, 0, h2⟩
    · exact (intAdd_same base gs gs gy X.natAbs (decide (X < 0)) (decide (X < 0)) (decide ((0 : Int) < 0)) A A none n c n c 0 0 w ⟨hg, hg, hgy, hvb⟩ (fun m => add_nil base X.natAbs _ (w.drewN m) hN) (by rw [decide_eq_false hX0]; rfl)).mono fun e w' h => h.add (by rw [Int.add_zero]) (by rw [Int.add_zero, decide_eq_false hX0, Bool.and_false])
  · refine bigAdd_any base gs h gy X x v w hg hN hgy o ?_ hb hX
    rcases hne with e | e
    · cases e
    · exact e
end Go.Proofs.YtikkocdbaekjmaaGreatDoor
