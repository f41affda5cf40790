/- sort.SliceStable of the places by their rests, however many: out of the walk of sort.stable_func. -/
import Derived.Test.YthkobjbemmllfaaGreatDoorSortS
import Derived.Test.YthkobjbemmllfaaGreatDoorSymZ
namespace Go.Proofs.YthkobjbemmllfaaGreatDoor
open Go.RowKit Go.Shelf Go.Lib Go.Sort

/-- Which of two places comes first. -/
def RP (R : Nat → Nat) (m : Nat) (x y : Fin (m + 1)) : Prop := R y.val < R x.val ∨ R x.val = R y.val ∧ x.val < y.val
theorem order_RP (R : Nat → Nat) (m : Nat) : Order (RP R m) :=
  ⟨fun {x y z} h1 h2 => by unfold RP at *; omega, fun x h => by unfold RP at h; omega⟩
theorem gt_idP (m i : Nat) (hi : i < m + 1) : (gt (idP m) i).val = i := idP_at m i hi
theorem fresh_idP (R : Nat → Nat) (m : Nat) : Fresh (RP R m) (ltP R m) (gt (idP m)) (m + 1) := fun i j hij hj => by
  have e1 := gt_idP m i (by omega)
  have e2 := gt_idP m j hj
  refine ⟨fun h => .inl (of_decide_eq_true h), fun h => ?_⟩
  have := of_decide_eq_false h
  unfold RP
  rw [e1, e2] at *
  omega
theorem ord_good {m : Nat} {R : Nat → Nat} {d' : Array (Fin (m + 1))} (h : Good (RP R m) (gt (idP m)) (gt d') 0 (m + 1)) : IsOrd R (m + 1) fun i => (d'[i]!).val :=
  ⟨fun i _ => (d'[i]!).isLt, fun i j hij hj => h.asc i j (Nat.zero_le _) hij hj⟩

set_option maxRecDepth 100000 in
theorem sort_many (m : Nat) (h1 : 1 ≤ m) (h58 : m + 1 < 288230376151711744) (R : Nat → Nat) : SortOK (m + 1) R := by
  intro w0 w bS bR bO b1 b2 S hM
  obtain ⟨n1, n2, n3, n4, n5, n6, n7, n8, n9⟩ := hM.ne
  have hn : (idP m).size = m + 1 := idP_size m
  have hH := holds_of_row hM.o (idP m) hn (fun i hi => idP_at m i hi)
  obtain ⟨x1, x2⟩ : w.cell? ⟨b1, 0, none⟩ = some (.slice (some ⟨bR, 0, none⟩) (m + 1) (m + 1)) ∧ w.cell? ⟨b2, 0, none⟩ = some (.slice (some ⟨bO, 0, none⟩) (m + 1) (m + 1)) :=
    ⟨by unfold World.cell?; rw [hM.x1]; rfl, by unfold World.cell?; rw [hM.x2]; rfl⟩
  have hless := lessReads m R bR bO b1 b2 w x1 x2 (fun i hi => hM.r.cell hi) (idP m) hn hH (Ne.symm n6) (Ne.symm n9) n3 hM.o.lt
  have hblk := hM.o.lt
  refine Any.sort_SliceStable_of_stable (P := Tryz.prog) Tryz.sl8 22 3 siT siE (by kernel_rfl) (by kernel_rfl) (by kernel_rfl) (by kernel_rfl) 2 (fun _ => by kernel_rfl) (some ⟨bO, 0, none⟩) (m + 1) (m + 1) (by omega) 72 (by rw [siK _ (by omega)]; kernel_rfl) (.func 23) #[] _ w _ ?_
  have hB : sliceBound Tryz.prog 3 siE 2 (some ⟨bO, 0, none⟩) (m + 1) (m + 1) = #[.slice (some ⟨bO, 0, none⟩) (m + 1) (m + 1), typeHandle Tryz.prog 3] := by
    unfold sliceBound; rw [if_neg (swapperK_gt _ _ _ (by omega))]
  have hW : ∃ os0, stableWorld Tryz.prog Tryz.sl8_ren 22 (some ⟨bO, 0, none⟩) (m + 1) (m + 1) w = grow w os0 := by
    unfold stableWorld; rw [alloc_eq_grow, alloc_eq_grow, grow_grow]; exact ⟨_, rfl⟩
  obtain ⟨os0, hW⟩ := hW
  rw [hB, hW]
  have hC : Ctx Tryz.prog (encP m) (ltP R m) 23 #[.pointer (some ⟨b1, 0, none⟩), .pointer (some ⟨b2, 0, none⟩)] 72 #[.slice (some ⟨bO, 0, none⟩) (m + 1) (m + 1), typeHandle Tryz.prog 3] bO 0 (idP m) (grow w os0) :=
    ⟨by rw [hn]; exact hless.grow hblk os0,
     by rw [hn]; exact swapSwaps_of_literal true 72 (fun args W => run_callFunc_extern Tryz.func72 (by kernel_rfl) (by kernel_rfl) (by kernel_rfl) (e := Extern.ReflectliteSwapper.swap true) (by kernel_rfl) args W) 3 siE (by kernel_rfl) (by kernel_rfl) (fun _ => by kernel_rfl) (encP m) (fun _ => rfl) bO 0 (m + 1) (m + 1),
     holds_grow (encP m) w _ bO 0 (idP m) hblk hH, by rw [size_grow]; omega, by rw [hn]; omega⟩
  have hS := stable_any Tryz.sl8 (enters_of Tryz.func23 (by kernel_rfl) rfl) (order_RP R m) hC (by rw [hn]; exact fresh_idP R m) (by rw [hn]; exact h58)
  rw [hn] at hS
  refine Calls.mono hS ?_
  rintro e w' ⟨rfl, d', hs, hG, n, os, rfl⟩
  refine ⟨rfl, _, ord_good hG, ?_⟩
  have e : sortWorld (encP m) (grow w os0) bO 0 n d' os = grow (putRow (encP m) (Sort.ahead w n) bO 0 d') (os0 ++ os) := by
    unfold sortWorld; rw [ahead_grow, putRow_grow (encP m) (Sort.ahead w n) _ bO 0 _ hblk, grow_grow]
  rw [e]
  exact made_sorted hM n d' _ hs

set_option maxRecDepth 100000 in
theorem sort_one (R : Nat → Nat) : SortOK 1 R := by
  intro w0 w bS bR bO b1 b2 S hM
  refine Calls.mono (Any.sort_SliceStable_tiny (P := Tryz.prog) Tryz.sl8 22 3 siT siE (by kernel_rfl) (by kernel_rfl) (by kernel_rfl) (by kernel_rfl) 2 (fun _ => by kernel_rfl) (some ⟨bO, 0, none⟩) 1 1 (by omega) 69 (by kernel_rfl) (.func 23) #[] _ w) ?_
  rintro e w' ⟨rfl, os, rfl⟩
  exact ⟨rfl, fun i => i, ⟨fun i hi => hi, fun i j p q => by omega⟩, hM.step (Grew.below (w := w) ⟨0, os, rfl⟩)⟩
theorem sort_any (n : Nat) (h1 : 1 ≤ n) (h2 : n < 288230376151711744) (R : Nat → Nat) : SortOK n R := by
  rcases Nat.lt_or_ge 1 n with h | h
  · obtain ⟨m, rfl⟩ : ∃ m, n = m + 1 := ⟨n - 1, by omega⟩
    exact sort_many m (by omega) h2 R
  · obtain rfl : n = 1 := by omega
    exact sort_one R
end Go.Proofs.YthkobjbemmllfaaGreatDoor
