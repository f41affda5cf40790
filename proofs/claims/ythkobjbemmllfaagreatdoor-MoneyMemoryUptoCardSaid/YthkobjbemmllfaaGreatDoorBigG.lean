/- math/big: NewInt of any int64; low64, Int64, IsInt64; money.fits: walked. -/
import Derived.Test.YthkobjbemmllfaaGreatDoorBigF
import Derived.Test.YthkobjbemmllfaaGreatDoorNum
namespace Go.Proofs.YthkobjbemmllfaaGreatDoor
open Go.RowKit

/-- v is M, of at most one word, as NewInt makes it. -/
def W1 (w : World) (v : Value) (M : Nat) : Prop := (v = .slice none 0 0 ∧ M = 0) ∨ ∃ h, v = .slice (some ⟨h, 0, none⟩) 1 1 ∧ One w h 1 M
theorem W1.form {w : World} {v : Value} {M : Nat} (h : W1 w v M) : ∃ A n c, v = .slice A n c := by
  rcases h with ⟨rfl, _⟩ | ⟨h, rfl, _⟩
  · exact ⟨_, _, _, rfl⟩
  · exact ⟨_, _, _, rfl⟩
theorem One.keep {w w' : World} {h c d : Nat} (o : One w h c d) (hb : w'.heap[h]? = w.heap[h]?) : One w' h c d := by
  obtain ⟨⟨f, hB, h1⟩, h2, h3, h4⟩ := o
  exact ⟨⟨f, hB.keep hb, h1⟩, h2, h3, h4⟩
theorem W1.keep {w w' : World} {v : Value} {M : Nat} (h : W1 w v M) (hb : ∀ k, v.ownBlock = some k → w'.heap[k]? = w.heap[k]?) : W1 w' v M := by
  rcases h with h | ⟨k, rfl, o⟩
  · exact .inl h
  · exact .inr ⟨k, rfl, o.keep (hb k rfl)⟩
theorem W1.nv {w : World} {v : Value} {M base : Nat} (h : W1 w v M) (hb : ∀ k, v.ownBlock = some k → base ≤ k) : Nv w base v M := by
  rcases h with ⟨rfl, rfl⟩ | ⟨k, rfl, ⟨f, hB, rfl⟩, h2, h3, h4⟩
  · exact .inl ⟨rfl, rfl⟩
  · exact .inr ⟨k, 1, 1, f, rfl, hb k rfl, hB, .inl rfl, by decide, by decide, .inr (.inl ⟨rfl, rfl, h3, h4⟩)⟩

/-- What NewInt leaves. -/
def NewPost (x : Int) (w : World) (e : Ending) (w' : World) : Prop :=
  ∃ p v, e = .returned (.pointer (some ⟨p, 0, none⟩)) ∧ w'.heap[p]? = some (.cells #[.bool (decide (x < 0)), v] 48 (0, 0)) ∧ W1 w' v x.natAbs ∧ Below w.heap.size w w' ∧ w.heap.size ≤ p ∧ (∀ k, v.ownBlock = some k → w.heap.size ≤ k)
set_option maxRecDepth 100000 in
theorem newInt_zero (w : World) : Calls Tryz.prog 19 #[.int .i64 0] w fun e w' => e = .returned (.pointer (some ⟨w.heap.size, 0, none⟩)) ∧ w' = w.alloc (.cells #[.bool false, .slice none 0 0] 48) := by
  go_enter Tryz.func19, Tryz.ntmps19
  go_wp2
  go_ret
  exact ⟨rfl, rfl⟩
theorem newInt_gen (x : Int) (w : World) (h1 : -9223372036854775808 ≤ x) (h2 : x ≤ 9223372036854775807) : Calls Tryz.prog 19 #[.int .i64 x] w (NewPost x w) := by
  by_cases h0 : x = 0
  · subst h0
    refine (newInt_zero w).mono ?_
    rintro e w' ⟨rfl, rfl⟩
    exact ⟨_, _, rfl, heap_alloc_new w _, .inl ⟨rfl, rfl⟩, Below.new w _, Nat.le_refl _, fun k hk => by cases hk⟩
  · refine (newInt_any x w h0 h1 h2).mono ?_
    rintro e w' ⟨rfl, rfl⟩
    have hsz : (w.alloc (.cells #[.int .u64 (x.natAbs : Nat)] 66)).heap.size = w.heap.size + 1 := by simp
    refine ⟨_, _, rfl, by rw [← hsz]; exact heap_alloc_new _ _, .inr ⟨_, rfl, ⟨⟨fun _ => x.natAbs, (blk_new w x.natAbs).keep ?_, rfl⟩, by decide, by omega, by omega⟩⟩, (Below.new w (.cells #[.int .u64 (x.natAbs : Nat)] 66)).trans ?_, by omega, fun k hk => ?_⟩
    · exact Below.heap_alloc _ _ _ (by rw [hsz]; omega)
    · exact (Below.refl _ _).alloc (by rw [hsz]; omega) _
    · cases hk; exact Nat.le_refl _

theorem low64_any (base M : Nat) (v : Value) (w : World) (hv : Nv w base v M) : Calls Tryz.prog 43 #[v] w fun e w' => e = .returned (.int .u64 ((M % 18446744073709551616 : Nat) : Int)) ∧ w = w' := by
  rcases hv with ⟨rfl, rfl⟩ | ⟨g, n, c, f, rfl, hg, hB, hc, hc1, hn, ⟨rfl, rfl⟩ | ⟨rfl, rfl, h3, h4⟩ | ⟨rfl, rfl, h3, h4, h5⟩⟩
  · go_enter Tryz.func43, Tryz.ntmps43
    go_wp2
    go_ret
    exact ⟨rfl, rfl⟩
  · clear hB hc hc1 hn
    go_enter Tryz.func43, Tryz.ntmps43
    go_wp2
    go_ret
    exact ⟨rfl, rfl⟩
  · have hx := (hB.cell (i := 0) (by omega)).1
    rw [Nat.mod_eq_of_lt h4]
    clear hB hc hc1 hn h3 h4
    generalize f 0 = x at *
    go_enter Tryz.func43, Tryz.ntmps43
    go_wp2
    go_ret
    exact ⟨rfl, rfl⟩
  · have hx := (hB.cell (i := 0) (by omega)).1
    rw [Nat.add_mul_mod_self_left, Nat.mod_eq_of_lt h3]
    clear hB hc hc1 hn h3 h4 h5
    generalize f 0 = x at *
    go_enter Tryz.func43, Tryz.ntmps43
    go_wp2
    go_ret
    exact ⟨rfl, rfl⟩

set_option maxRecDepth 100000 in
theorem int64_any (base g : Nat) (X : Int) (v : Value) (w : World) (hg : w.heap[g]? = some (.cells #[.bool (decide (X < 0)), v] 48 (0, 0))) (hN : Nv w base v X.natAbs) :
    Calls Tryz.prog 21 #[.pointer (some ⟨g, 0, none⟩)] w fun e w' => e = .returned (.int .i64 (IntKind.i64.wrap X)) ∧ w = w' := by
  have a1 := low64_any base X.natAbs v w hN
  have c0 : w.cell? ⟨g, 0, none⟩ = some (.bool (decide (X < 0))) := by unfold World.cell?; rw [hg]; rfl
  have c1 : w.cell? ⟨g, 1, none⟩ = some v := by unfold World.cell?; rw [hg]; rfl
  obtain ⟨A, n, c, rfl, _⟩ := hN.form
  by_cases hX : X < 0
  · have e1 : IntKind.i64.wrap (-(IntKind.i64.wrap ((X.natAbs % 18446744073709551616 : Nat) : Int))) = IntKind.i64.wrap X := by simp only [IntKind.wrap_i64]; omega
    rw [decide_eq_true hX] at c0
    have E1 := Lib.hid e1
    clear hg hN hX e1
    generalize X.natAbs % 18446744073709551616 = m at *
    generalize hR : IntKind.i64.wrap X = R at *
    have e1 := E1.out
    generalize hQ : IntKind.i64.wrap (m : Int) = Qv at *
    clear hR E1
    go_enter Tryz.func21, Tryz.ntmps21
    go_wp2_with fail
    refine a1.mono ?_
    rintro e w' ⟨rfl, rfl⟩
    clear a1
    go_wp2
    go_ret
    exact ⟨by first | rfl | rw [e1] | (rw [hQ, e1]), rfl⟩
  · have e1 : IntKind.i64.wrap ((X.natAbs % 18446744073709551616 : Nat) : Int) = IntKind.i64.wrap X := by simp only [IntKind.wrap_i64]; omega
    rw [decide_eq_false hX] at c0
    have E1 := Lib.hid e1
    clear hg hN hX e1
    generalize X.natAbs % 18446744073709551616 = m at *
    generalize hR : IntKind.i64.wrap X = R at *
    have e1 := E1.out
    clear hR E1
    go_enter Tryz.func21, Tryz.ntmps21
    go_wp2_with fail
    refine a1.mono ?_
    rintro e w' ⟨rfl, rfl⟩
    clear a1
    go_wp2
    go_ret
    exact ⟨by first | rfl | rw [e1], rfl⟩
end Go.Proofs.YthkobjbemmllfaaGreatDoor
