/- money.Sum, Add, Sub: walked. -/
import Derived.Test.YthkobjbemmllfaaGreatDoorBigH
import Derived.Test.YthkobjbemmllfaaGreatDoorBigI
namespace Go.Proofs.YthkobjbemmllfaaGreatDoor
open Go.RowKit

def sumTo (f : Nat → Int) : Nat → Int
  | 0 => 0
  | n + 1 => sumTo f n + f n
theorem sumTo_succ (f : Nat → Int) (n : Nat) : sumTo f (n + 1) = sumTo f n + f n := rfl
theorem sumTo_le {f : Nat → Int} {N : Nat} (hf : ∀ i, i < N → fits64 (f i)) : ∀ n, n ≤ N → (sumTo f n).natAbs ≤ n * 9223372036854775808
  | 0, _ => by simp [sumTo]
  | n + 1, h => by
    have ih := sumTo_le hf n (by omega)
    have := hf n (by omega)
    have h1 := this.1; have h2 := this.2
    rw [sumTo_succ]
    omega

/-- What fits leaves of a sum. -/
def FitPost (B : Nat → Addr) (S : Int) (w : World) (e : Ending) (w' : World) : Prop := e = .returned (.tuple #[.int .i64 (fv S), ev B (fn S)]) ∧ Below w.heap.size w w'

/-- The block g holds the whole number X, made from base on. -/
structure Acc (w0 w : World) (g : Nat) (X : Int) : Prop where
  below : Below w0.heap.size w0 w
  big : ∃ v, w.heap[g]? = some (.cells #[.bool (decide (X < 0)), v] 48 (0, 0)) ∧ Nv w w0.heap.size v X.natAbs
  g_ge : w0.heap.size ≤ g
theorem Acc.step {w0 w w1 : World} {g : Nat} {X x : Int} (h : Acc w0 w g X) {e1 : Ending} (hn : NewPost x w e1 w1) :
    ∃ p v, e1 = .returned (.pointer (some ⟨p, 0, none⟩)) ∧ w1.heap[g]? = some (.cells #[.bool (decide (X < 0)), v] 48 (0, 0)) ∧ Nv w1 w0.heap.size v X.natAbs ∧ (∃ yv, w1.heap[p]? = some (.cells #[.bool (decide (x < 0)), yv] 48 (0, 0)) ∧ W1 w1 yv x.natAbs ∧ (yv.ownBlock = none ∨ v.ownBlock ≠ yv.ownBlock)) ∧ Below w0.heap.size w0 w1 := by
  obtain ⟨hb, ⟨v, h1, h2⟩, hg⟩ := h
  obtain ⟨p, yv, he, h3, h4, h5, h6, h7⟩ := hn
  have hgl : g < w.heap.size := by
    rcases Nat.lt_or_ge g w.heap.size with h | h
    · exact h
    · rw [Array.getElem?_eq_none h] at h1; cases h1
  refine ⟨p, v, he, (h5.block g hgl).trans h1, h2.keep (fun k hk => h5.block k (h2.block hk).2.1), ⟨yv, h3, h4, ?_⟩, hb.trans (h5.mono hb.size)⟩
  cases hy : yv.ownBlock with
  | none => exact .inl rfl
  | some k =>
    refine .inr fun e => ?_
    have := h7 k hy
    have := (h2.block e).2.1
    omega
theorem Acc.added {w0 w w1 : World} {g : Nat} {Y : Int} {v : Value} {M : Nat} {e : Ending} (hb : Below w0.heap.size w0 w) (hg : w0.heap.size ≤ g) (hN : Nv w w0.heap.size v M) (h : AddPost w0.heap.size g v Y w e w1) : Acc w0 w1 g Y := by
  obtain ⟨v', _, h1, h2, ⟨k1, k2, k3, k4, k5⟩, _⟩ := h
  refine ⟨hb.trans ⟨k1, k2, k3, k4, fun k hk => k5 k (Nat.lt_of_lt_of_le hk hb.size) (by omega) (fun e => ?_)⟩, ⟨v', h1, h2⟩, hg⟩
  have := (hN.block e.symm).1
  omega

set_option maxRecDepth 100000 in
set_option maxHeartbeats 1000000 in
theorem sum_any (B : Nat → Addr) (A : Option Addr) (n c : Nat) (f : Nat → Int) (w : World) (hE : Env w B)
    (hA : n = 0 ∨ ∃ b o, A = some ⟨b, o, none⟩ ∧ b < w.heap.size ∧ ∀ i, i < n → w.cell? ⟨b, o + i, none⟩ = some (.int .i64 (f i))) (hf : ∀ i, i < n → fits64 (f i)) (hn : n ≤ 1152921504606846976) :
    Calls Tryz.prog 11 #[.slice A n c] w (FitPost B (sumTo f n) w) := by
  have HE := Lib.hid hE; have HA := Lib.hid hA; have HF := Lib.hid hf; have HN := Lib.hid hn
  have hn2 : (n : Int) ≤ 1152921504606846976 := by omega
  have hacc : Acc w (w.alloc (.cells #[.bool false, .slice none 0 0] 48)) w.heap.size (sumTo f 0) :=
    ⟨Below.new w _, ⟨_, heap_alloc_new w _, .inl ⟨rfl, rfl⟩⟩, Nat.le_refl _⟩
  have HACC := Lib.hid hacc
  clear hE hA hf hacc hn
  go_enter Tryz.func11, Tryz.ntmps11
  go_wp2_with fail
  go_loopw [10, 6] (fun vi _ wr => ∃ i : Nat, vi = .int .i64 i ∧ i ≤ n ∧ Hid (Acc w wr w.heap.size (sumTo f i))) (fun vi _ _ => n - (intOf vi).toNat)
  case atStart => exact ⟨0, rfl, Nat.zero_le _, HACC⟩
  case round =>
    obtain ⟨i, rfl, hi, hacc⟩ := hrel
    rcases Nat.lt_or_ge i n with h | h
    · rcases HA.out with h0 | ⟨b, o, rfl, hb, hc⟩
      · omega
      · have hci := (hacc.out.below.cell (p := ⟨b, o + i, none⟩) hb).trans (hc i h)
        have hfi := HF.out i h
        have HFI := Lib.hid hfi
        have a1 := newInt_gen (f i) wr hfi.1 hfi.2
        have hiI : (i : Int) < n := by omega
        clear hc hfi
        generalize hy : f i = y at *
        have HY := Lib.hid hy
        clear hy
        go_wp2_with fail
        refine a1.mono ?_
        clear a1
        rintro e w1 hnew
        obtain ⟨p, v, rfl, h1, h2, ⟨yv, h3, h4, h5⟩, h6⟩ := hacc.out.step hnew
        have hle := sumTo_le HF.out i (by omega)
        have a2 := bigAddW w.heap.size w.heap.size p (sumTo f i) y v yv w1 h1 h2 h3 h4 h5 h6.size (by
          have := HN.out; have := HFI.out.1; have := HFI.out.2
          omega)
        have H2 := Lib.hid h2; have H6 := Lib.hid h6
        clear hnew h1 h2 h3 h4 h5 h6 hle
        go_wp2_with fail
        refine a2.mono ?_
        clear a2
        rintro e w2 hadd
        have HACC2 := Lib.hid (Acc.added H6.out (Nat.le_refl _) H2.out hadd)
        obtain ⟨v', rfl, _⟩ := hadd
        go_wp2
        go_round
        case rel => exact ⟨i + 1, by go_num, h, by rw [sumTo_succ, HY.out]; exact HACC2⟩
        case measure => simp [intOf]; omega
    · obtain rfl : i = n := by omega
      obtain ⟨v, h1, h2⟩ := hacc.out.big
      have a1 := fits_any B w.heap.size w.heap.size _ v wr (HE.out.below hacc.out.below) h1 h2
      clear h1 h2
      go_wp2_with fail
      refine a1.mono ?_
      clear a1
      rintro e w1 ⟨rfl, k, rfl⟩
      go_wp2
      go_ret2
      exact ⟨rfl, hacc.out.below.trans ⟨rfl, rfl, rfl, Nat.le_refl _, fun _ _ => rfl⟩⟩
end Go.Proofs.YthkobjbemmllfaaGreatDoor
