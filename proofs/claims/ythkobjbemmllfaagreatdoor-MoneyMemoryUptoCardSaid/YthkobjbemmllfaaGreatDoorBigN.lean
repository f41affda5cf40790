/- math/big: nat.div of a number of at most one word by one word, into new memory: walked. -/
import Derived.Test.YthkobjbemmllfaaGreatDoorBigM
namespace Go.Proofs.YthkobjbemmllfaaGreatDoor
open Go.RowKit

/-- What nat.div leaves: quotient and rest in new memory. -/
def DivPost (base q r : Nat) (w : World) (e : Ending) (w' : World) : Prop :=
  ∃ v u, e = .returned (.tuple #[v, u]) ∧ Nv w' base v q ∧ Nv w' base u r ∧ w.grownBy w' none ∧ (v.ownBlock = none ∨ ∃ k, v.ownBlock = some k ∧ w.heap.size ≤ k) ∧ (u.ownBlock = none ∨ ∃ k, u.ownBlock = some k ∧ w.heap.size ≤ k) ∧ (u.ownBlock = none ∨ v.ownBlock ≠ u.ownBlock)
theorem DivPost.mk {base q r : Nat} {w w' : World} {e : Ending} {v u : Value} (h : e = .returned (.tuple #[v, u])) (h1 : Nv w' base v q) (h2 : Nv w' base u r) (h3 : w.grownBy w' none) (h4 : v.ownBlock = none ∨ ∃ k, v.ownBlock = some k ∧ w.heap.size ≤ k) (h5 : u.ownBlock = none ∨ ∃ k, u.ownBlock = some k ∧ w.heap.size ≤ k) (h6 : u.ownBlock = none ∨ v.ownBlock ≠ u.ownBlock) : DivPost base q r w e w' := ⟨v, u, h, h1, h2, h3, h4, h5, h6⟩
theorem grown_none_trans {w w1 w2 : World} (h : w.grownBy w1 none) (k : w1.grownBy w2 none) : w.grownBy w2 none := grown_trans h k
theorem Nv.grown {w w' : World} {base M : Nat} {v : Value} (h : Nv w base v M) (hg : w.grownBy w' none) : Nv w' base v M :=
  h.keep fun _ hk => hg.block _ (h.block hk).2.1 (by simp)

set_option maxRecDepth 100000 in
set_option maxHeartbeats 1000000 in
theorem natDiv_any (base h cy X d : Nat) (xv : Value) (w : World) (hX : X % d < 18446744073709551616)
    (a1 : Calls Tryz.prog 116 #[.slice none 0 0, xv, .int .u64 d] w (DivWPost base (X / d) (X % d) w)) (hx : ∃ A n c, xv = .slice A n c) (hy : One w h cy d) (hb : base ≤ w.heap.size) :
    Calls Tryz.prog 67 #[.slice none 0 0, .pointer none, .slice none 0 0, xv, .slice (some ⟨h, 0, none⟩) 1 cy] w (DivPost base (X / d) (X % d) w) := by
  obtain ⟨A, n, c, rfl⟩ := hx
  have hyc := hy.cell.1
  have hcy := hy.cap
  have HR := Lib.hid hX
  have HB := Lib.hid hb
  clear hy hX hb
  generalize X / d = q at *
  generalize X % d = r at *
  go_enter_defers Tryz.func67, Tryz.ntmps67
  go_wp2_with fail
  refine a1.mono ?_
  clear a1
  rintro e w1 ⟨v', rfl, h1, h2, h3⟩
  have a2 := setWord_any base r w1 HR.out (Nat.le_trans HB.out h2.size)
  have H1 := Lib.hid h1; have H2 := Lib.hid h2; have H3 := Lib.hid h3
  clear h1 h2 h3
  go_wp2_with fail
  refine a2.mono ?_
  clear a2
  rintro e w2 ⟨u', rfl, h4, h5, h6⟩
  have H4 := Lib.hid h4; have H5 := Lib.hid h5; have H6 := Lib.hid h6
  clear h4 h5 h6
  go_wp2
  refine ⟨_, results_tmp2 rfl _ _ _, DivPost.mk (v := v') (u := u') rfl (H1.out.grown H5.out) H4.out (grown_none_trans H2.out H5.out) H3.out ?_ ?_⟩
  · rcases H6.out with h | ⟨k, h, hk⟩
    · exact .inl h
    · exact .inr ⟨k, h, Nat.le_trans H2.out.size hk⟩
  · rcases H6.out with h | ⟨k, h, hk⟩
    · exact .inl h
    · refine .inr fun e => ?_
      rw [h] at e
      have := (H1.out.block e).2.1
      omega
end Go.Proofs.YthkobjbemmllfaaGreatDoor
