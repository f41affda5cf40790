/- money.Split of whatever comes in, by one contract; rows of amounts, owned and read. -/
import Derived.Test.YthkobjbemmllfaaGreatDoorSplitB
import Derived.Test.YthkobjbemmllfaaGreatDoorSpare
import Derived.Deep.OwnRows
import Derived.Deep.DeepCutAuto
import Derived.Handy
namespace Go.Proofs.YthkobjbemmllfaaGreatDoor
open Go.RowKit

/-- The shares of an amount by weights; none where it is refused. -/
def Sh (a : Int) (z : Nat → Int) (n m : Nat) (f : Nat → Int) : Prop :=
  (splitErr a z n ≠ 0 ∧ m = 0) ∨ (splitErr a z n = 0 ∧ m = n ∧ ∃ ord, IsOrd (rf a.toNat (nsum (wz z) n) (wz z)) n ord ∧ ∀ i, i < n → f i = ((shareN a.toNat (nsum (wz z) n) n (wz z) ord i : Nat) : Int))
theorem splitErr_good {a : Int} {z : Nat → Int} {n : Nat} (h : splitErr a z n = 0) : 0 ≤ a ∧ okTo z n = true ∧ nsum (wz z) n ≠ 0 := by
  unfold splitErr at h
  by_cases h1 : a < 0
  · rw [if_pos h1] at h; omega
  · rw [if_neg h1] at h
    by_cases h2 : okTo z n = true ∧ nsum (wz z) n ≠ 0
    · exact ⟨by omega, h2⟩
    · rw [if_neg h2] at h; omega
theorem splitErr_le (a : Int) (z : Nat → Int) (n : Nat) : splitErr a z n ≤ 37 := by
  unfold splitErr; split
  · decide
  · split <;> decide
theorem Sh.same {a : Int} {z : Nat → Int} {n m m' : Nat} {f g : Nat → Int} (h : Sh a z n m f) (k : Sh a z n m' g) : m' = m ∧ ∀ i, i < m → g i = f i := by
  rcases h with ⟨h1, rfl⟩ | ⟨h1, rfl, o1, p1, q1⟩ <;> rcases k with ⟨k1, rfl⟩ | ⟨k1, rfl, o2, p2, q2⟩
  · exact ⟨rfl, fun i hi => by omega⟩
  · exact absurd k1 h1
  · exact absurd h1 k1
  · refine ⟨rfl, fun i hi => ?_⟩
    have hg := splitErr_good h1
    rw [q1 i hi, q2 i hi, share_same p2 p1 rfl (by omega)]
theorem Sh.le {a : Int} {z : Nat → Int} {n m : Nat} {f : Nat → Int} (h : Sh a z n m f) : m ≤ n := by
  rcases h with ⟨_, rfl⟩ | ⟨_, rfl, _⟩ <;> omega
/-- A row of amounts, made from base on; nil where there is none. -/
def RowOf (w : World) (base : Nat) (A : Option Addr) (m : Nat) (f : Nat → Int) : Prop :=
  (A = none ∧ m = 0) ∨ ∃ b, A = some ⟨b, 0, none⟩ ∧ base ≤ b ∧ w.rowIs b 2 m fun i => .int .i64 (f i)
theorem RowOf.vals {w : World} {base : Nat} {A : Option Addr} {m : Nat} {f : Nat → Int} (h : RowOf w base A m f) : Vals w A m f := by
  rcases h with ⟨_, h⟩ | ⟨b, rfl, _, h⟩
  · exact .inl h
  · exact .inr ⟨b, 0, rfl, h.lt, fun i hi => by rw [Nat.zero_add]; exact h.cell hi⟩
theorem RowOf.keep {w w' : World} {base : Nat} {A : Option Addr} {m : Nat} {f : Nat → Int} (h : RowOf w base A m f) (hk : ∀ b, A = some ⟨b, 0, none⟩ → w'.heap[b]? = w.heap[b]?) : RowOf w' base A m f := by
  rcases h with h | ⟨b, e, h1, h2⟩
  · exact .inl h
  · exact .inr ⟨b, e, h1, h2.of_block (hk b e)⟩
theorem RowOf.lt {w : World} {base b : Nat} {A : Option Addr} {m : Nat} {f : Nat → Int} (h : RowOf w base A m f) (e : A = some ⟨b, 0, none⟩) : base ≤ b ∧ b < w.heap.size := by
  rcases h with ⟨h, _⟩ | ⟨b', e', h1, h2⟩
  · rw [h] at e; cases e
  · rw [e'] at e; cases e; exact ⟨h1, h2.lt⟩
theorem RowOf.below {w w' : World} {base : Nat} {A : Option Addr} {m : Nat} {f : Nat → Int} (h : RowOf w base A m f) (hb : Below w.heap.size w w') : RowOf w' base A m f :=
  h.keep fun b e => hb.block b (h.lt e).2
theorem RowOf.congr {w : World} {base : Nat} {A : Option Addr} {m : Nat} {f g : Nat → Int} (h : RowOf w base A m f) (e : ∀ i, i < m → f i = g i) : RowOf w base A m g := by
  rcases h with h | ⟨b, e', h1, h2⟩
  · exact .inl h
  · exact .inr ⟨b, e', h1, h2.congr fun i hi => by rw [e i hi]⟩
theorem nls_take {c : Array Value} {n : Nat} {f : Nat → Int} (h : ∀ i, i < n → c[i]? = some (.int .i64 (f i))) : c.toList.take n = nls f n := by
  apply List.ext_getElem?
  intro i
  rcases Nat.lt_or_ge i n with hi | hi
  · rw [List.getElem?_take_of_lt hi, nls_at f n i hi, Array.getElem?_toList]; exact h i hi
  · rw [List.getElem?_eq_none (by rw [List.length_take]; omega), List.getElem?_eq_none (by rw [nls_length]; exact hi)]
/-- A row is owned, all of it or its beginning. -/
theorem owns_of_row {w : World} {base b n N : Nat} {t : TypeId} {f : Nat → Int} (h : w.rowIs b t N fun i => .int .i64 (f i)) (hb : base ≤ b) (hn : n ≤ N) (hN : N ≤ maxLen) : w.ownsRow base t 1 (.slice (some ⟨b, 0, none⟩) n N) n (nls f n) := by
  obtain ⟨c, h1, h2, h3⟩ := h
  exact ⟨by rw [nls_length, Nat.mul_one], .inr ⟨b, N, c, rfl, hb, h1, hn, hN, by rw [Nat.mul_one]; exact h2, by rw [Nat.mul_one]; exact nls_take fun i hi => h3 i (by omega)⟩⟩
theorem RowOf.owns {w : World} {base : Nat} {A : Option Addr} {m : Nat} {f : Nat → Int} (h : RowOf w base A m f) (hm : m ≤ maxLen) : w.ownsRow base 2 1 (.slice A m m) m (nls f m) := by
  rcases h with ⟨rfl, rfl⟩ | ⟨b, rfl, h1, h2⟩
  · exact World.ownsRow_nil _ _ _ _
  · exact owns_of_row h2 h1 (Nat.le_refl _) hm
theorem add_spot {b o : Nat} (i : Nat) : (⟨b, o, none⟩ : Addr).add i = ⟨b, o + i, none⟩ := by unfold Addr.add; split <;> simp_all
/-- An owned row reads as its amounts. -/
theorem vals_of_owns {w : World} {base n c : Nat} {t : TypeId} {A : Option Addr} {f : Nat → Int} (h : w.ownsRow base t 1 (.slice A n c) n (nls f n)) : Vals w A n f := by
  rcases h.2 with ⟨_, h0⟩ | ⟨g, cap, cur, hv, hb, hg, hn, _, hs, ht⟩
  · exact .inl h0
  · cases hv
    have hlt : g < w.heap.size := by
      rcases Nat.lt_or_ge g w.heap.size with h | h
      · exact h
      · rw [Array.getElem?_eq_none h] at hg; cases hg
    refine .inr ⟨g, 0, rfl, hlt, fun i hi => ?_⟩
    have := h.cells (g := g) rfl i _ (nls_at f n i hi)
    rwa [add_spot] at this
/-- An owned row that fills its block. -/
theorem row_of_owns {w : World} {base b n : Nat} {t : TypeId} {f : Nat → Int} (h : w.ownsRow base t 1 (.slice (some ⟨b, 0, none⟩) n n) n (nls f n)) : base ≤ b ∧ w.rowIs b t n fun i => .int .i64 (f i) := by
  rcases h.2 with ⟨h0, _⟩ | ⟨g, cap, cur, hv, hb, hg, hn, _, hs, ht⟩
  · cases h0
  · cases hv
    refine ⟨hb, cur, hg, by omega, fun i hi => ?_⟩
    have := nls_at f n i hi
    rw [← ht, Nat.mul_one, List.getElem?_take_of_lt hi, Array.getElem?_toList] at this
    exact this

/-- What Split leaves of whatever comes in. -/
def SplitRes (B : Nat → Addr) (a : Int) (z : Nat → Int) (n : Nat) (w : World) (e : Ending) (w' : World) : Prop :=
  ∃ (A : Option Addr) (m : Nat) (f : Nat → Int), e = .returned (.tuple #[.slice A m m, ev B (splitErr a z n)]) ∧ Sh a z n m f ∧ RowOf w' w.heap.size A m f ∧ Below w.heap.size w w'
theorem split_all (B : Nat → Addr) (a : Int) (A : Option Addr) (n c : Nat) (z : Nat → Int) (w : World) (hE : Env w B) (ha : a ≤ 9223372036854775807) (hA : Ints w A n z) (hn : n ≤ 1048576) :
    Calls Tryz.prog 7 #[.int .i64 a, .slice A n c] w (SplitRes B a z n w) := by
  have hsum : ∀ i, i ≤ n → okTo z i = true → nsum (wz z) i ≤ n * 1000000 := fun i hi hok =>
    Nat.le_trans (nsum_le (f := wz z) (M := 1000000) (N := i) (fun j hj => (wz_at hok hj).2) i (Nat.le_refl _)) (Nat.mul_le_mul_right 1000000 hi)
  by_cases h0 : a < 0
  · refine (split_neg B A n c a w hE h0).mono fun e w' ⟨he, hb⟩ => ⟨none, 0, fun _ => 0, ?_, .inl ⟨?_, rfl⟩, .inl ⟨rfl, rfl⟩, hb⟩
    · rw [he]; unfold splitErr; rw [if_pos h0]
    · unfold splitErr; rw [if_pos h0]; decide
  · by_cases hbad : okTo z n = true ∧ nsum (wz z) n ≠ 0
    · obtain ⟨hok, hne⟩ := hbad
      obtain ⟨m, rfl⟩ : ∃ m : Nat, a = m := ⟨a.toNat, by omega⟩
      have hs := hsum n (Nat.le_refl _) hok
      have hn1 : 1 ≤ n := by
        rcases Nat.eq_zero_or_pos n with e | e
        · subst e; exact absurd rfl hne
        · exact e
      have he0 : splitErr (m : Int) z n = 0 := by unfold splitErr; rw [if_neg h0, if_pos ⟨hok, hne⟩]
      refine (split_any A n c m (nsum (wz z) n) (wz z) w (by omega) (nums_of hA hok) (fun i hi => (wz_at hok hi).2) (by omega) rfl (by omega) (by omega) (fun i hi => divOK_share (by omega) rfl (by omega) (by omega) hi) (sort_any n hn1 (by omega) _)).mono fun e w' ⟨ord, ho, bS, he, h1, h2, h3⟩ => ?_
      refine ⟨some ⟨bS, 0, none⟩, n, fun i => ((shareN m (nsum (wz z) n) n (wz z) ord i : Nat) : Int), ?_, .inr ⟨he0, rfl, ord, ho, fun i _ => rfl⟩, .inr ⟨bS, rfl, h1, h2⟩, h3⟩
      rw [he, he0]; rfl
    · have he6 : splitErr a z n = 6 := by unfold splitErr; rw [if_neg h0, if_neg hbad]
      refine (split_bad B A n c a z w hE (by omega) hA (by omega) hbad fun i hi hok => ?_).mono fun e w' ⟨he, hb⟩ => ⟨none, 0, fun _ => 0, ?_, .inl ⟨?_, rfl⟩, .inl ⟨rfl, rfl⟩, hb⟩
      · have := hsum i hi hok; omega
      · rw [he, he6]
      · rw [he6]; decide
end Go.Proofs.YthkobjbemmllfaaGreatDoor
