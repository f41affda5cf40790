/- math/big: NewInt, Int.Sign, Int.Add onto its first argument: walked. -/
import Derived.Test.YthkobjbemmllfaaGreatDoorBig8
namespace Go.Proofs.YthkobjbemmllfaaGreatDoor
open Go.RowKit

/-- Block g is the whole number X; its words lie from base on. -/
def Big (w : World) (base g : Nat) (X : Int) : Prop := ∃ v, w.heap[g]? = some (.cells #[.bool (decide (X < 0)), v] 46 (0, 0)) ∧ Nv w base v X.natAbs
theorem Nv.drewN {w : World} {base M : Nat} {v : Value} (h : Nv w base v M) (n : Nat) : Nv (w.drewN n) base v M := h
theorem Nv.block {w : World} {base M k : Nat} {v : Value} (h : Nv w base v M) (hk : v.ownBlock = some k) : base ≤ k ∧ k < w.heap.size ∧ ∃ cur, w.heap[k]? = some (.cells cur 75 (0, 0)) := by
  rcases h with ⟨rfl, _⟩ | ⟨g, n, c, f, rfl, hg, hB, _⟩
  · cases hk
  · obtain rfl : g = k := Option.some.inj hk
    obtain ⟨cur, h1, _⟩ := hB
    refine ⟨hg, ?_, cur, h1⟩
    rcases Nat.lt_or_ge g w.heap.size with h | h
    · exact h
    · rw [Array.getElem?_eq_none h] at h1; cases h1
theorem Nv.keep {w w' : World} {base M : Nat} {v : Value} (h : Nv w base v M) (hb : ∀ k, v.ownBlock = some k → w'.heap[k]? = w.heap[k]?) : Nv w' base v M := by
  rcases h with h | ⟨g, n, c, f, rfl, hg, hB, rest⟩
  · exact .inl h
  · exact .inr ⟨g, n, c, f, rfl, hg, hB.keep (hb g rfl), rest⟩
theorem Nv.form {w : World} {base M : Nat} {v : Value} (h : Nv w base v M) : ∃ A n c, v = .slice A n c ∧ (n = 0 ↔ M = 0) := by
  rcases h with ⟨rfl, rfl⟩ | ⟨g, n, c, f, rfl, hg, hB, hc, hc1, hn, ⟨rfl, rfl⟩ | ⟨rfl, rfl, h3, h4⟩ | ⟨rfl, rfl, h3, h4, h5⟩⟩
  · exact ⟨_, 0, _, rfl, by simp⟩
  · exact ⟨_, 0, _, rfl, by simp⟩
  · exact ⟨_, 1, _, rfl, by omega⟩
  · exact ⟨_, 2, _, rfl, by omega⟩

set_option maxRecDepth 100000 in
set_option maxHeartbeats 1000000 in
theorem newInt_any (x : Int) (w : World) (h0 : x ≠ 0) (h1 : -9223372036854775808 ≤ x) (h2 : x ≤ 9223372036854775807) :
    Calls Tryz.prog 18 #[.int .i64 x] w fun e w' => e = .returned (.pointer (some ⟨w.heap.size + 1, 0, none⟩)) ∧ w' = (w.alloc (.cells #[.int .u64 (x.natAbs : Nat)] 75)).alloc (.cells #[.bool (decide (x < 0)), .slice (some ⟨w.heap.size, 0, none⟩) 1 1] 46) := by
  have hz : (x == 0) = false := by simpa using h0
  cases hn : decide (x < 0) with
  | true =>
    have hn2 := of_decide_eq_true hn
    have e1 : IntKind.u64.wrap (-(IntKind.u64.wrap x)) = ((x.natAbs : Nat) : Int) := by rw [IntKind.wrap_u64, IntKind.wrap_u64]; omega
    have e2 : IntKind.u64.wrap x = x + 18446744073709551616 := by rw [IntKind.wrap_u64]; omega
    rw [e2] at e1
    generalize x.natAbs = m at *
    go_enter Tryz.func18, Tryz.ntmps18
    go_wp2
    go_ret
    exact ⟨rfl, rfl⟩
  | false =>
    have hn2 := of_decide_eq_false hn
    have e1 : IntKind.u64.wrap x = ((x.natAbs : Nat) : Int) := by rw [IntKind.wrap_u64]; omega
    generalize x.natAbs = m at *
    go_enter Tryz.func18, Tryz.ntmps18
    go_wp2
    go_ret
    exact ⟨rfl, rfl⟩
/-- -1, 0 or 1. -/
def sgn (X : Int) : Int := if X = 0 then 0 else if X < 0 then -1 else 1
end Go.Proofs.YthkobjbemmllfaaGreatDoor
