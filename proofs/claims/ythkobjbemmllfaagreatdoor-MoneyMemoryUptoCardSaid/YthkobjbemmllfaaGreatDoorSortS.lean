/- sort.SliceStable of the places by their rests, 2 to 20 of them: out of the shelf's contract. -/
import Derived.Test.YthkobjbemmllfaaGreatDoorSplitW
import Derived.Test.YthkobjbemmllfaaGreatDoorStable
import Derived.Shelf.GgSortMore.Stable
namespace Go.Proofs.YthkobjbemmllfaaGreatDoor
open Go.RowKit Go.Shelf Go.Lib Go.Sort

noncomputable def siT : TypeInfo := (Tryz.prog.info? 22).get (by kernel_rfl)
noncomputable def siE : TypeInfo := (Tryz.prog.info? 3).get (by kernel_rfl)
theorem siK (n : Nat) (h2 : 2 ≤ n) : Lib.swapperK n siE 2 = 5 := by
  have a : siE.hasPointers = false := by kernel_rfl
  have b : siE.bytes = 8 := by kernel_rfl
  have c : (n == 0) = false := by simp; omega
  have d : (n == 1) = false := by simp; omega
  simp [Lib.swapperK, a, b, c, d]

set_option maxRecDepth 100000 in
set_option maxHeartbeats 2000000 in
theorem less_any (bR bO b1 b2 n : Nat) (R G : Nat → Nat) (W : World) (x1 : W.cell? ⟨b1, 0, none⟩ = some (.slice (some ⟨bR, 0, none⟩) n n)) (x2 : W.cell? ⟨b2, 0, none⟩ = some (.slice (some ⟨bO, 0, none⟩) n n))
    (hr : ∀ i, i < n → W.cell? ⟨bR, i, none⟩ = some (.int .i64 (R i))) (ho : ∀ i, i < n → W.cell? ⟨bO, i, none⟩ = some (.int .i64 (G i))) (i j : Nat) (hi : i < n) (hj : j < n) (hgi : G i < n) (hgj : G j < n) :
    Calls Tryz.prog 23 #[.int .i64 i, .int .i64 j, .pointer (some ⟨b1, 0, none⟩), .pointer (some ⟨b2, 0, none⟩)] W fun e w' => e = .returned (.bool (decide (R (G j) < R (G i)))) ∧ ∃ q, w' = W.drewN q := by
  have c1 := ho i hi
  have c2 := ho j hj
  have c3 := hr (G i) hgi
  have c4 := hr (G j) hgj
  clear hr ho
  generalize R (G i) = ri at *
  generalize R (G j) = rj at *
  generalize G i = gi at *
  generalize G j = gj at *
  go_enter Tryz.func23, Tryz.ntmps23
  go_wp2
  go_quiet (fail)
  go_wp2
  go_ret
  refine ⟨?_, nq, rfl⟩
  simp

/-- A place, as the model holds it; and which comes first. -/
def encP (m : Nat) (x : Fin (m + 1)) : Value := .int .i64 (x.val : Int)
def ltP (R : Nat → Nat) (m : Nat) (x y : Fin (m + 1)) : Bool := decide (R y.val < R x.val)
theorem lessReads (m : Nat) (R : Nat → Nat) (bR bO b1 b2 : Nat) (w : World) (x1 : w.cell? ⟨b1, 0, none⟩ = some (.slice (some ⟨bR, 0, none⟩) (m + 1) (m + 1))) (x2 : w.cell? ⟨b2, 0, none⟩ = some (.slice (some ⟨bO, 0, none⟩) (m + 1) (m + 1)))
    (hr : ∀ i, i < m + 1 → w.cell? ⟨bR, i, none⟩ = some (.int .i64 (R i))) (d : Array (Fin (m + 1))) (hd : d.size = m + 1) (hH : Holds (encP m) w bO 0 d) (n1 : b1 ≠ bO) (n2 : b2 ≠ bO) (n3 : bR ≠ bO) (hbO : bO < w.heap.size) :
    LessReads Tryz.prog 23 #[.pointer (some ⟨b1, 0, none⟩), .pointer (some ⟨b2, 0, none⟩)] (encP m) (ltP R m) bO 0 (m + 1) w := by
  intro k os dk hs i j hi hj
  have e : sortWorld (encP m) w bO 0 k dk os = putRow (encP m) (grow (Sort.ahead w k) os) bO 0 dk := by
    unfold sortWorld; rw [putRow_grow _ (Sort.ahead w k) _ bO 0 _ hbO]
  have hHg : Holds (encP m) (grow (Sort.ahead w k) os) bO 0 d := holds_grow _ _ _ bO 0 d hbO (holds_ahead _ _ _ _ _ _ hH)
  have old : ∀ (b o : Nat) (v : Value), b ≠ bO → w.cell? ⟨b, o, none⟩ = some v → (sortWorld (encP m) w bO 0 k dk os).cell? ⟨b, o, none⟩ = some v := fun b o v hb hc => by
    rw [e, cell?_putRow_other _ _ bO 0 dk _ (Or.inl hb), cell?_grow _ _ _ (show b < (Sort.ahead w k).heap.size from World.block_lt_of_cell? w _ hc)]
    exact hc
  exact less_any bR bO b1 b2 (m + 1) R (fun t => (dk[t]!).val) _ (old _ _ _ n1 x1) (old _ _ _ n2 x2) (fun i hi => old _ _ _ n3 (hr i hi))
    (fun t ht => by
      have := cell?_putRow (encP m) _ bO 0 d dk hHg (by rw [hs, hd]) t (by omega)
      rw [e]
      rw [Nat.zero_add] at this
      exact this) i j hi hj (dk[i]!).isLt (dk[j]!).isLt
theorem holds_of_row {m : Nat} {w : World} {bO : Nat} {O : Nat → Nat} (h : w.rowIs bO 3 (m + 1) (fun i => .int .i64 (O i))) (d : Array (Fin (m + 1))) (hd : d.size = m + 1) (hO : ∀ i, i < m + 1 → (d[i]!).val = O i) : Holds (encP m) w bO 0 d := fun j hj => by
  rw [Nat.zero_add]
  refine ⟨?_, h.frozen j⟩
  rw [h.cell (by omega)]
  show some (Value.int .i64 (O j)) = some (.int .i64 ((d[j]!).val : Int))
  rw [hO j (by omega)]
theorem heap_sorted {m : Nat} (w : World) (bO k : Nat) (dk : Array (Fin (m + 1))) (os : Array Obj) {j : Nat} (hj : j < w.heap.size) (hne : j ≠ bO) : (grow (putRow (encP m) (Sort.ahead w k) bO 0 dk) os).heap[j]? = w.heap[j]? := by
  show ((w.heap.modify bO _) ++ os)[j]? = _
  rw [Array.getElem?_append_left (by simpa using hj), Array.getElem?_modify, if_neg (fun h => hne h.symm)]
/-- A row that the sort has written. -/
theorem row_sorted {m : Nat} {w : World} {bO : Nat} {f : Nat → Value} (h : w.rowIs bO 3 (m + 1) f) (k : Nat) (dk : Array (Fin (m + 1))) (os : Array Obj) (hs : dk.size = m + 1) :
    (grow (putRow (encP m) (Sort.ahead w k) bO 0 dk) os).rowIs bO 3 (m + 1) (fun i => .int .i64 (((dk[i]!).val : Nat) : Int)) := by
  have hlt := h.lt
  obtain ⟨c, hb, hn, hc⟩ := h
  refine ⟨putCells (encP m) 0 dk c, ?_, by simp [putCells, hn], fun i hi => ?_⟩
  · show ((w.heap.modify bO (onCells (putCells (encP m) 0 dk))) ++ os)[bO]? = _
    rw [Array.getElem?_append_left (by simpa using hlt), Array.getElem?_modify, if_pos rfl, hb]
    rfl
  · simp only [putCells, Array.getElem?_mapIdx, hc i hi, Option.map_some]
    rw [if_pos ⟨Nat.zero_le _, by omega⟩]
    rfl
theorem made_sorted {m : Nat} {w0 w : World} {bS bR bO b1 b2 : Nat} {S R O : Nat → Nat} (h : Made5 w0 w bS bR bO b1 b2 (m + 1) S R O) (k : Nat) (dk : Array (Fin (m + 1))) (os : Array Obj) (hs : dk.size = m + 1) :
    Made5 w0 (grow (putRow (encP m) (Sort.ahead w k) bO 0 dk) os) bS bR bO b1 b2 (m + 1) S R (fun i => (dk[i]!).val) := by
  obtain ⟨n1, n2, n3, n4, n5, n6, n7, n8, n9⟩ := h.ne
  have hsz : w.heap.size ≤ (grow (putRow (encP m) (Sort.ahead w k) bO 0 dk) os).heap.size := by
    show w.heap.size ≤ ((w.heap.modify bO _) ++ os).size
    simp
  have hb : ∀ j, j < w.heap.size → j ≠ bO → (grow (putRow (encP m) (Sort.ahead w k) bO 0 dk) os).heap[j]? = w.heap[j]? := fun j hj hne => heap_sorted w bO k dk os hj hne
  exact ⟨h.below.trans ⟨rfl, rfl, rfl, hsz, fun j hj => hb j (Nat.lt_of_lt_of_le hj h.below.size) (by have := h.ge.2.2.1; omega)⟩, h.s.of_block (hb _ h.s.lt n2), h.r.of_block (hb _ h.r.lt n3), row_sorted h.o k dk os hs, (hb _ (lt_of_block h.x1) (Ne.symm n6)).trans h.x1, (hb _ (lt_of_block h.x2) (Ne.symm n9)).trans h.x2, h.ge, h.ne⟩

def idP (m : Nat) : Array (Fin (m + 1)) := Array.ofFn id
theorem idP_size (m : Nat) : (idP m).size = m + 1 := by simp [idP]
theorem idP_at (m i : Nat) (hi : i < m + 1) : ((idP m)[i]!).val = i := by
  rw [getElem!_pos _ i (by rw [idP_size]; exact hi)]
  simp [idP]

set_option maxRecDepth 100000 in
/-- The sort of 2 to 20 places: the insertion sort. -/
theorem sort_small (m : Nat) (h1 : 1 ≤ m) (h20 : m < 20) (R : Nat → Nat) (hR : IsOrd R (m + 1) fun i => ((Sort.insertionSort (ltP R m) (idP m) 0 (m + 1))[i]!).val) (hsz : (Sort.insertionSort (ltP R m) (idP m) 0 (m + 1)).size = m + 1) : SortOK (m + 1) R := by
  intro w0 w bS bR bO b1 b2 S hM
  obtain ⟨n1, n2, n3, n4, n5, n6, n7, n8, n9⟩ := hM.ne
  have hH := holds_of_row hM.o (idP m) (idP_size m) (fun i hi => idP_at m i hi)
  obtain ⟨x1, x2⟩ : w.cell? ⟨b1, 0, none⟩ = some (.slice (some ⟨bR, 0, none⟩) (m + 1) (m + 1)) ∧ w.cell? ⟨b2, 0, none⟩ = some (.slice (some ⟨bO, 0, none⟩) (m + 1) (m + 1)) :=
    ⟨by unfold World.cell?; rw [hM.x1]; rfl, by unfold World.cell?; rw [hM.x2]; rfl⟩
  have hless := lessReads m R bR bO b1 b2 w x1 x2 (fun i hi => hM.r.cell hi) (idP m) (idP_size m) hH (Ne.symm n6) (Ne.symm n9) n3 hM.o.lt
  have hS := Any.sort_SliceStable_small Tryz.sl8 22 3 siT siE (by kernel_rfl) (by kernel_rfl) (by kernel_rfl) (by kernel_rfl) 2 (fun _ => by kernel_rfl) (by kernel_rfl) (fun _ => by kernel_rfl) (encP m) (fun _ => rfl) (ltP R m) 23 _
    (enters_of Tryz.func23 (by kernel_rfl) rfl) bO 0 (m + 1) (idP m) (by rw [idP_size]; omega) (by rw [idP_size]; omega) 72 (by rw [idP_size, siK _ (by omega)]; kernel_rfl) true
    (fun args W => run_callFunc_extern Tryz.func72 (by kernel_rfl) (by kernel_rfl) (by kernel_rfl) (e := Extern.ReflectliteSwapper.swap true) (by kernel_rfl) args W) w (by rw [idP_size]; exact hless) hH hM.o.lt
  rw [idP_size] at hS
  refine Calls.mono ?_ (fun e w' (h : e = .returned (.tuple #[]) ∧ ∃ n os, w' = grow (putRow (encP m) (Sort.ahead w n) bO 0 (Sort.insertionSort (ltP R m) (idP m) 0 (m + 1))) os) => ?_)
  · exact hS
  · obtain ⟨he, n, os, rfl⟩ := h
    exact ⟨he, _, hR, made_sorted hM n _ os hsz⟩
end Go.Proofs.YthkobjbemmllfaaGreatDoor
