/- fees.read: walked up to its loops. -/
import Derived.Test.YtikkocdbaekjmaaGreatDoorFeeF
import Derived.Test.YtikkocdbaekjmaaGreatDoorShelf
namespace Go.Proofs.YtikkocdbaekjmaaGreatDoor
open Go.RowKit

theorem splitB_size (sep : ByteArray) : ∀ (k : Nat) (s x : ByteArray), x ∈ Lib.splitB sep 0 k s → x.size ≤ s.size
  | 0, s, x, h => by
    rw [Lib.splitB_zero] at h
    simp at h; rw [h]; exact Nat.le_refl _
  | k + 1, s, x, h => by
    unfold Lib.splitB at h
    split at h
    · simp at h; rw [h]; exact Nat.le_refl _
    · rcases List.mem_cons.1 h with h | h
      · rw [h]; simp [ByteArray.size_extract]; omega
      · have := splitB_size sep k _ x h
        simp [ByteArray.size_extract] at this
        omega
theorem pieces_size {s : ByteArray} {c : UInt8} {i : Nat} : ((pieces s c).getD i ⟨#[]⟩).size ≤ s.size := by
  rcases Nat.lt_or_ge i (pieces s c).length with h | h
  · refine splitB_size ⟨#[c]⟩ (Lib.countB s ⟨#[c]⟩) s _ ?_
    rw [List.getD_eq_getElem?_getD, List.getElem?_eq_getElem h, Option.getD_some]
    exact List.getElem_mem h
  · rw [List.getD_eq_getElem?_getD, List.getElem?_eq_none h]; exact Nat.zero_le _
theorem pieces_len (s : ByteArray) (c : UInt8) : (pieces s c).length = Lib.countB s ⟨#[c]⟩ + 1 := Lib.splitB_all ⟨#[c]⟩ (Nat.le_refl 1) 0 _ s rfl
theorem split_any (s : ByteArray) (c : UInt8) (m : Int) (w : World) (hs : s.size < 4294967281) (hm : w.cell? ⟨39, 0, none⟩ = some (.int .i64 m)) :
    Calls Tryz.prog 27 #[.string s, .string ⟨#[c]⟩] w fun e w' => e = .returned (.slice (some ⟨w.heap.size, 0, none⟩) (pieces s c).length (pieces s c).length) ∧ w' = w.alloc (.cells ((pieces s c).map Value.string).toArray 9) := by
  rw [pieces_len]
  exact Tryz.strings_Split s ⟨#[c]⟩ m w hs hm (Nat.le_refl 1)
theorem alloc_old {w : World} {k : Nat} {c : Array Value} {t : TypeId} (h : w.heap[k]? = some (.cells c t (0, 0))) (o : Obj) : (w.alloc o).heap[k]? = some (.cells c t (0, 0)) := ((Below.new w o).block _ (lt_of_block h)).trans h
theorem alloc_at {w : World} {k : Nat} (hk : k = w.heap.size) (c : Array Value) (t : TypeId) : (w.alloc (.cells c t)).heap[k]? = some (.cells c t (0, 0)) := by rw [hk]; exact heap_alloc_new w _
theorem RS.start (w : World) (W P : List ByteArray) : RS w ((((w.alloc (.cells #[.slice none 0 0, .int .i64 0, .int .i64 0] 25)).alloc (.cells #[.slice none 0 0, .int .i64 0, .int .i64 0] 25)).alloc (.cells (W.map Value.string).toArray 9)).alloc (.cells (P.map Value.string).toArray 9)) W P (.slice none 0 0) [] 0 0 where
  below := by
    have b1 := Below.new w (.cells #[.slice none 0 0, .int .i64 0, .int .i64 0] 25)
    have b2 := b1.alloc b1.size (.cells #[.slice none 0 0, .int .i64 0, .int .i64 0] 25)
    have b3 := b2.alloc b2.size (.cells (W.map Value.string).toArray 9)
    exact b3.alloc b3.size _
  res := alloc_old (alloc_old (alloc_old (alloc_at rfl _ _) _) _) _
  box := alloc_old (alloc_old (alloc_at (by simp) _ _) _) _
  words := alloc_old (alloc_at (by simp) _ _) _
  pcs := alloc_at (by simp) _ _
  own := OwnT.nil _ _

theorem end0 (w : World) : (Instr.index 68 (.agg #[.string ⟨#[58]⟩, .string ⟨#[43]⟩, .string ⟨#[]⟩]) (.int .i64 0)).run Tryz.prog w = .ok (.string ⟨#[58]⟩) w :=
  run_index_in w 68 9 3 #[.string ⟨#[58]⟩, .string ⟨#[43]⟩, .string ⟨#[]⟩] .i64 0 _ Tryz.underlying68 (by decide) (fun _ => by kernel_rfl) (fun _ => by kernel_rfl) rfl
theorem end1 (w : World) : (Instr.index 68 (.agg #[.string ⟨#[58]⟩, .string ⟨#[43]⟩, .string ⟨#[]⟩]) (.int .i64 1)).run Tryz.prog w = .ok (.string ⟨#[43]⟩) w :=
  run_index_in w 68 9 3 #[.string ⟨#[58]⟩, .string ⟨#[43]⟩, .string ⟨#[]⟩] .i64 1 _ Tryz.underlying68 (by decide) (fun _ => by kernel_rfl) (fun _ => by kernel_rfl) rfl
theorem end2 (w : World) : (Instr.index 68 (.agg #[.string ⟨#[58]⟩, .string ⟨#[43]⟩, .string ⟨#[]⟩]) (.int .i64 2)).run Tryz.prog w = .ok (.string ⟨#[]⟩) w :=
  run_index_in w 68 9 3 #[.string ⟨#[58]⟩, .string ⟨#[43]⟩, .string ⟨#[]⟩] .i64 2 _ Tryz.underlying68 (by decide) (fun _ => by kernel_rfl) (fun _ => by kernel_rfl) rfl
theorem cut_any (x : ByteArray) (c : UInt8) (m : Int) (w : World) (hs : x.size < 4294967281) (hm : w.cell? ⟨39, 0, none⟩ = some (.int .i64 m)) :
    Calls Tryz.prog 28 #[.string x, .string ⟨#[c]⟩] w fun e w' => ∃ y r d, e = .returned (.tuple #[.string y, .string r, .bool d]) ∧ y.data.toList = (Lib.cut x.data.toList [c]).1 ∧ r.data.toList = (Lib.cut x.data.toList [c]).2.1 ∧ r.size < 4294967281 ∧ Below w.heap.size w w' := by
  refine (Tryz.strings_Cut x ⟨#[c]⟩ m w hs hm).mono ?_
  rintro e w' ⟨rfl, n, rfl⟩
  refine ⟨_, _, _, rfl, rfl, rfl, ?_, below_drewN (Below.refl _ _) n⟩
  have h := (cut_le x.data.toList [c]).2
  have h2 : x.data.toList.length = x.size := Array.length_toList
  show (Lib.cut x.data.toList [c]).2.1.toArray.size < _
  simp only [List.size_toArray]
  omega
/-- The three numbers of a tier, in a block of their own. -/
def Arr (w : World) (g : Nat) (a b c : Int) : Prop := w.heap[g]? = some (.cells #[.int .i64 a, .int .i64 b, .int .i64 c] 67 (0, 0))
theorem Arr.cells {w : World} {g : Nat} {a b c : Int} (h : Arr w g a b c) : (w.cell? ⟨g, 0, none⟩ = some (.int .i64 a) ∧ w.cell? ⟨g, 1, none⟩ = some (.int .i64 b) ∧ w.cell? ⟨g, 2, none⟩ = some (.int .i64 c)) ∧
    w.frozen? ⟨g, 0, none⟩ = false ∧ w.frozen? ⟨g, 1, none⟩ = false ∧ w.frozen? ⟨g, 2, none⟩ = false := by
  unfold Arr at h
  refine ⟨⟨?_, ?_, ?_⟩, ?_, ?_, ?_⟩ <;> (first | unfold World.cell? | unfold World.frozen?) <;> rw [h] <;> rfl
theorem Arr.below {w w' : World} {g : Nat} {a b c : Int} (h : Arr w g a b c) (hb : Below w.heap.size w w') : Arr w' g a b c := by
  unfold Arr at h ⊢
  rw [hb.block g (lt_of_block h)]; exact h
theorem Arr.set {w : World} {g : Nat} {a b c : Int} (h : Arr w g a b c) : (∀ x, Arr (w.setCell ⟨g, 0, none⟩ (.int .i64 x)) g x b c) ∧ (∀ x, Arr (w.setCell ⟨g, 1, none⟩ (.int .i64 x)) g a x c) ∧ (∀ x, Arr (w.setCell ⟨g, 2, none⟩ (.int .i64 x)) g a b x) := by
  unfold Arr at h ⊢
  exact ⟨fun x => heap_set_at h _, fun x => heap_set_at h _, fun x => heap_set_at h _⟩
/-- The cells that lie open while read goes on. -/
theorem RS.cells {w0 w : World} {W P : List ByteArray} {v : Value} {ts : List (Nat × Nat × Nat)} {l m : Nat} (h : RS w0 w W P v ts l m) : (w.cell? ⟨w0.heap.size + 1, 0, none⟩ = some v ∧ w.cell? ⟨w0.heap.size + 1, 1, none⟩ = some (.int .i64 l) ∧ w.cell? ⟨w0.heap.size + 1, 2, none⟩ = some (.int .i64 m)) ∧
    (w.frozen? ⟨w0.heap.size + 1, 0, none⟩ = false ∧ w.frozen? ⟨w0.heap.size + 1, 1, none⟩ = false ∧ w.frozen? ⟨w0.heap.size + 1, 2, none⟩ = false) ∧
    (w.cell? ⟨w0.heap.size, 0, none⟩ = some (.slice none 0 0) ∧ w.cell? ⟨w0.heap.size, 1, none⟩ = some (.int .i64 0) ∧ w.cell? ⟨w0.heap.size, 2, none⟩ = some (.int .i64 0)) ∧
    (w.frozen? ⟨w0.heap.size, 0, none⟩ = false ∧ w.frozen? ⟨w0.heap.size, 1, none⟩ = false ∧ w.frozen? ⟨w0.heap.size, 2, none⟩ = false) := by
  have h1 := h.box
  have h2 := h.res
  refine ⟨⟨?_, ?_, ?_⟩, ⟨?_, ?_, ?_⟩, ⟨?_, ?_, ?_⟩, ?_, ?_, ?_⟩ <;> (first | unfold World.cell? | unfold World.frozen?) <;> (first | (rw [h1]; rfl) | (rw [h2]; rfl))
theorem box3 {w : World} {g : Nat} {a b c : Value} {t : TypeId} (h : w.heap[g]? = some (.cells #[a, b, c] t (0, 0))) : w.cell? ⟨g, 0, none⟩ = some a ∧ w.cell? ⟨g, 1, none⟩ = some b ∧ w.cell? ⟨g, 2, none⟩ = some c := by
  refine ⟨?_, ?_, ?_⟩ <;> unfold World.cell? <;> rw [h] <;> rfl
theorem bytes_toList (b : ByteArray) : b.toList = b.data.toList := by rw [Lib.toList_data]
theorem own_set {w : World} {B k i : Nat} {v : Value} {ts : List (Nat × Nat × Nat)} {c : Array Value} {t : TypeId} (h : OwnT w B v ts) (hk : w.heap[k]? = some (.cells c t (0, 0))) (ht : t ≠ 35) (u : Value) : OwnT (w.setCell ⟨k, i, none⟩ u) B v ts :=
  h.keep fun j hj => Below.heap_setCell w ⟨k, i, none⟩ u j fun e => by
    obtain ⟨_, _, cur, hc⟩ := h.block j hj
    have e : j = k := e
    rw [e, hk] at hc
    injection hc with hc; injection hc with _ hc _; exact ht hc
theorem RS.box_grown {w0 w w' : World} {W P : List ByteArray} {v : Value} {ts : List (Nat × Nat × Nat)} {l m : Nat} (h : RS w0 w W P v ts l m) (hg : w.grownBy w' v.ownBlock) : w'.heap[w0.heap.size + 1]? = some (.cells #[v, .int .i64 l, .int .i64 m] 25 (0, 0)) :=
  (hg.block _ (lt_of_block h.box) (h.other h.box (by decide))).trans h.box
theorem RS.box_thaw {w0 w w' : World} {W P : List ByteArray} {v : Value} {ts : List (Nat × Nat × Nat)} {l m : Nat} (h : RS w0 w W P v ts l m) (hg : w.grownBy w' v.ownBlock) : w'.frozen? ⟨w0.heap.size + 1, 0, none⟩ = false := by
  unfold World.frozen?
  rw [h.box_grown hg]; rfl
theorem tiersTo_len {p : Nat → List UInt8} : ∀ {k : Nat} {ts : List (Nat × Nat × Nat)}, tiersTo p k = some ts → ts.length = k
  | 0, ts, h => by unfold tiersTo at h; injection h with h; rw [← h]; rfl
  | k + 1, ts, h => by
    unfold tiersTo at h
    split at h
    · cases h
    · rename_i t0 h0
      split at h
      · cases h
      · injection h with h
        rw [← h, List.length_append, tiersTo_len h0]; rfl
theorem pieces_le (s : ByteArray) (c : UInt8) : (pieces s c).length ≤ s.size + 1 := by
  rw [pieces_len]
  exact Nat.succ_le_succ (Lib.countB_le ⟨#[c]⟩ (Nat.le_refl 1) s.size s (Nat.le_refl _))
/-- What read answers. -/
def ReadPost (w : World) (s : ByteArray) (e : Ending) (w' : World) : Prop := Below w.heap.size w w' ∧ ((∃ ts l m v, readF s = some (ts, l, m) ∧ OwnT w' w.heap.size v ts ∧ e = .returned (.tuple #[.agg #[v, .int .i64 (l : Nat), .int .i64 (m : Nat)], .bool true])) ∨
  (readF s = none ∧ ∃ A n c l m, e = .returned (.tuple #[.agg #[.slice A n c, .int .i64 l, .int .i64 m], .bool false])))
set_option maxRecDepth 100000 in
set_option maxHeartbeats 4000000 in
theorem read_any (s : ByteArray) (m : Int) (w : World) (hs : s.size < 4294967281) (hm : w.cell? ⟨39, 0, none⟩ = some (.int .i64 m)) :
    Calls Tryz.prog 17 #[.string s] w fun e w' => ReadPost w s e w' := by
  have HM := Lib.hid hm
  go_enter Tryz.func17, Tryz.ntmps17
  go_wp2_with fail
  go_step3
  go_wp2_with fail
  have hRS := RS.start w (pieces s 32) (pieces ((pieces s 32).getD 0 ⟨#[]⟩) 44)
  have hWn : 0 < (pieces s 32).length := by rw [pieces_len]; omega
  have hws : ((pieces s 32).getD 0 ⟨#[]⟩).size < 4294967281 := Nat.lt_of_le_of_lt pieces_size hs
  have b1 := Below.new w (.cells #[.slice none 0 0, .int .i64 0, .int .i64 0] 25)
  have b2 := b1.alloc b1.size (.cells #[.slice none 0 0, .int .i64 0, .int .i64 0] 25)
  have m2 := (b2.cell (p := ⟨39, 0, none⟩) (World.block_lt_of_cell? _ _ hm)).trans hm
  have a1 := split_any s 32 m _ hs m2
  have b3 := b2.alloc b2.size (.cells ((pieces s 32).map Value.string).toArray 9)
  have m3 := (b3.cell (p := ⟨39, 0, none⟩) (World.block_lt_of_cell? _ _ hm)).trans hm
  have a2 := split_any ((pieces s 32).getD 0 ⟨#[]⟩) 44 m _ hws m3
  have e1 : (w.alloc (.cells #[.slice none 0 0, .int .i64 0, .int .i64 0] 25)).heap.size = w.heap.size + 1 := by simp
  have e2 : ((w.alloc (.cells #[.slice none 0 0, .int .i64 0, .int .i64 0] 25)).alloc (.cells #[.slice none 0 0, .int .i64 0, .int .i64 0] 25)).heap.size = w.heap.size + 2 := by simp
  have e3 : (((w.alloc (.cells #[.slice none 0 0, .int .i64 0, .int .i64 0] 25)).alloc (.cells #[.slice none 0 0, .int .i64 0, .int .i64 0] 25)).alloc (.cells ((pieces s 32).map Value.string).toArray 9)).heap.size = w.heap.size + 3 := by simp
  have c0 := strs_at (alloc_at (w := (w.alloc (.cells #[.slice none 0 0, .int .i64 0, .int .i64 0] 25)).alloc (.cells #[.slice none 0 0, .int .i64 0, .int .i64 0] 25)) e2.symm ((pieces s 32).map Value.string).toArray 9) hWn
  rw [e2] at a1
  rw [e3] at a2
  have HRS := Lib.hid hRS
  have hWI : (0 : Int) < (pieces s 32).length := by omega
  clear b1 b2 b3 m2 m3 hm hRS e1 e2 e3
  generalize hP : pieces ((pieces s 32).getD 0 ⟨#[]⟩) 44 = P at *
  generalize hq : (pieces s 32).getD 0 ⟨#[]⟩ = q at *
  generalize hW : pieces s 32 = W at *
  have HQ := Lib.hid hq
  have hWb : W.length ≤ 4294967282 := by rw [← hW]; have := pieces_le s 32; omega
  have hPn : P.length ≤ 4294967282 := by rw [← hP]; have := pieces_le q 44; omega
  have HPP := Lib.hid hP
  have HWW := Lib.hid hW
  clear hq hP hW
  refine a1.mono ?_
  clear a1
  rintro e w1 ⟨rfl, rfl⟩
  go_wp2_with fail
  go_step3
  go_wp2_with fail
  refine a2.mono ?_
  clear a2
  rintro e w1 ⟨rfl, rfl⟩
  generalize (((w.alloc (.cells #[.slice none 0 0, .int .i64 0, .int .i64 0] 25)).alloc (.cells #[.slice none 0 0, .int .i64 0, .int .i64 0] 25)).alloc (.cells (W.map Value.string).toArray 9)).alloc (.cells (P.map Value.string).toArray 9) = w4 at *
  clear c0
  go_wp2_with fail
  go_loopw [25, 6] (fun vi vo wr => ∃ k : Nat, ∃ v ts, vi = .int .i64 k ∧ vo = .bool true ∧ k ≤ P.length ∧ Hid (tiersTo (nth P) k = some ts) ∧ Hid (RS w wr W P v ts 0 0)) (fun vi _ _ => P.length - (intOf vi).toNat)
  case atStart => exact ⟨0, _, _, rfl, rfl, Nat.zero_le _, rfl, HRS⟩
  case round =>
    obtain ⟨k, v, ts, rfl, rfl, hk, hts, hrs⟩ := hrel
    rcases Nat.lt_or_ge k P.length with h | h
    · have hkI : (k : Int) < P.length := by omega
      have c0 := strs_at hrs.out.pcs h
      have hps : (P.getD k ⟨#[]⟩).size < 4294967281 := by rw [← HPP.out]; exact Nat.lt_of_le_of_lt pieces_size hws
      have HPS := Lib.hid hps
      have HNONE := Lib.hid (show tierF (P.getD k ⟨#[]⟩).data.toList = none → readF s = none by
        intro ht
        unfold readF
        rw [HWW.out, HQ.out, HPP.out, tiersTo_none (p := nth P) (k := k) ht _ h])
      have HSTEP := Lib.hid (show ∀ t, tierF (P.getD k ⟨#[]⟩).data.toList = some t → tiersTo (nth P) (k + 1) = some (ts ++ [t]) by
        intro t ht
        have ht2 : tierF (nth P k) = some t := ht
        unfold tiersTo
        rw [hts.out, ht2])
      have hlt := lt_of_block hrs.out.pcs
      obtain ⟨A, cp, rfl⟩ := hrs.out.own.form
      generalize P.getD k ⟨#[]⟩ = x at *
      clear hps
      go_wp2_with fail
      have i0 := end0; have i1 := end1; have i2 := end2
      refine wp_loop_rounds 4 ?_
      rw [rounds_succ]
      go_wp2_with fail
      have HB0 := Lib.hid (Below.new wr (.cells #[.int .i64 0, .int .i64 0, .int .i64 0] 67))
      have HA0 := Lib.hid (show Arr (wr.alloc (.cells #[.int .i64 0, .int .i64 0, .int .i64 0] 67)) wr.heap.size 0 0 0 from heap_alloc_new wr _)
      have hg := Nat.le_refl wr.heap.size
      generalize wr.alloc (.cells #[.int .i64 0, .int .i64 0, .int .i64 0] 67) = wa at *
      -- ROUND
      have m0 := ((hrs.out.step HB0.out).below.cell (p := ⟨39, 0, none⟩) (World.block_lt_of_cell? _ _ HM.out)).trans HM.out
      refine (cut_any x 58 m wa HPS.out m0).mono ?_
      clear m0
      rintro e w10 ⟨y0, r0, d0, rfl, hy, hr, hrz, hb⟩
      have HY0 := Lib.hid hy; have HR0 := Lib.hid hr; have HZ0 := Lib.hid hrz
      have HB10 := Lib.hid (HB0.out.trans (hb.mono HB0.out.size))
      have HA10 := Lib.hid (HA0.out.below hb)
      clear hy hr hrz hb HB0 HA0
      obtain ⟨⟨x0, x1, x2⟩, f0, f1, f2⟩ := HA10.out.cells
      have HRSC := Lib.hid (hrs.out.step HB10.out)
      go_wp2_with fail
      refine (number_any y0 _).mono ?_
      rintro e w20 ⟨rfl, rfl⟩
      have HBS0 := Lib.hid (show ∀ u, Below wr.heap.size wr (w10.setCell ⟨wr.heap.size, 0, none⟩ u) from fun u => HB10.out.setCell (p := ⟨wr.heap.size, 0, none⟩) (Nat.le_refl _) u)
      cases hn0 : numF y0.data.toList with
      | none =>
        rw [show numV none = .tuple #[.int .i64 0, .bool false] from rfl]
        have HRSF := Lib.hid (hrs.out.step (HBS0.out (.int .i64 0)))
        obtain ⟨⟨b0, b1, b2⟩, _, ⟨q0, q1, q2⟩, g0, g1, g2⟩ := HRSC.out.cells
        go_wp2_with fail
        have hres := heap_set_at (heap_set_at (heap_set_at HRSF.out.res (i := 0) (.slice A ts.length cp)) (i := 1) (.int .i64 0)) (i := 2) (.int .i64 0)
        obtain ⟨z0, z1, z2⟩ := box3 hres
        refine bodyPost_ret (by simp [results, Tryz.results19, go_sem, z0, z1, z2]; rfl) rfl ?_
        exact ⟨((HRSF.out.below.setCell (p := ⟨w.heap.size, 0, none⟩) (Nat.le_refl _) _).setCell (p := ⟨w.heap.size, 1, none⟩) (Nat.le_refl _) _).setCell (p := ⟨w.heap.size, 2, none⟩) (Nat.le_refl _) _, .inr ⟨HNONE.out (by unfold tierF; rw [← HY0.out, hn0]), _, _, _, _, _, rfl⟩⟩
      | some n0 =>
        rw [show numV (some n0) = .tuple #[.int .i64 (n0 : Nat), .bool true] from rfl]
        have HB20 := Lib.hid (HBS0.out (.int .i64 (n0 : Nat)))
        have HA20 := Lib.hid (HA10.out.set.1 (n0 : Nat))
        have HN0 := Lib.hid hn0
        clear HBS0 HB10 HA10 HRSC hn0
        go_wp2_with fail
        clear x0 x1 x2 f0 f1 f2
        generalize w10.setCell ⟨wr.heap.size, 0, none⟩ (.int .i64 (n0 : Nat)) = wn0 at *
        rw [rounds_succ]
        go_wp2_with fail
        have m1 := ((hrs.out.step HB20.out).below.cell (p := ⟨39, 0, none⟩) (World.block_lt_of_cell? _ _ HM.out)).trans HM.out
        refine (cut_any r0 43 m wn0 HZ0.out m1).mono ?_
        clear m1
        rintro e w11 ⟨y1, r1, d1, rfl, hy, hr, hrz, hb⟩
        have HY1 := Lib.hid hy; have HR1 := Lib.hid hr; have HZ1 := Lib.hid hrz
        have HB11 := Lib.hid (HB20.out.trans (hb.mono HB20.out.size))
        have HA11 := Lib.hid (HA20.out.below hb)
        clear hy hr hrz hb HB20 HA20
        obtain ⟨⟨x0, x1, x2⟩, f0, f1, f2⟩ := HA11.out.cells
        have HRSC := Lib.hid (hrs.out.step HB11.out)
        go_wp2_with fail
        refine (number_any y1 _).mono ?_
        rintro e w21 ⟨rfl, rfl⟩
        have HBS1 := Lib.hid (show ∀ u, Below wr.heap.size wr (w11.setCell ⟨wr.heap.size, 1, none⟩ u) from fun u => HB11.out.setCell (p := ⟨wr.heap.size, 1, none⟩) (Nat.le_refl _) u)
        cases hn1 : numF y1.data.toList with
        | none =>
          rw [show numV none = .tuple #[.int .i64 0, .bool false] from rfl]
          have HRSF := Lib.hid (hrs.out.step (HBS1.out (.int .i64 0)))
          obtain ⟨⟨b0, b1, b2⟩, _, ⟨q0, q1, q2⟩, g0, g1, g2⟩ := HRSC.out.cells
          go_wp2_with fail
          have hres := heap_set_at (heap_set_at (heap_set_at HRSF.out.res (i := 0) (.slice A ts.length cp)) (i := 1) (.int .i64 0)) (i := 2) (.int .i64 0)
          obtain ⟨z0, z1, z2⟩ := box3 hres
          refine bodyPost_ret (by simp [results, Tryz.results19, go_sem, z0, z1, z2]; rfl) rfl ?_
          exact ⟨((HRSF.out.below.setCell (p := ⟨w.heap.size, 0, none⟩) (Nat.le_refl _) _).setCell (p := ⟨w.heap.size, 1, none⟩) (Nat.le_refl _) _).setCell (p := ⟨w.heap.size, 2, none⟩) (Nat.le_refl _) _, .inr ⟨HNONE.out (by unfold tierF; rw [← HY0.out, HN0.out]; dsimp only; rw [← HR0.out, ← HY1.out, hn1]), _, _, _, _, _, rfl⟩⟩
        | some n1 =>
          rw [show numV (some n1) = .tuple #[.int .i64 (n1 : Nat), .bool true] from rfl]
          have HB21 := Lib.hid (HBS1.out (.int .i64 (n1 : Nat)))
          have HA21 := Lib.hid (HA11.out.set.2.1 (n1 : Nat))
          have HN1 := Lib.hid hn1
          clear HBS1 HB11 HA11 HRSC hn1
          go_wp2_with fail
          clear x0 x1 x2 f0 f1 f2
          generalize w11.setCell ⟨wr.heap.size, 1, none⟩ (.int .i64 (n1 : Nat)) = wn1 at *
          rw [rounds_succ]
          go_wp2_with fail
          obtain ⟨⟨x0, x1, x2⟩, f0, f1, f2⟩ := HA21.out.cells
          have HRSC := Lib.hid (hrs.out.step HB21.out)
          refine (number_any r1 _).mono ?_
          rintro e w22 ⟨rfl, rfl⟩
          have HBS2 := Lib.hid (show ∀ u, Below wr.heap.size wr (wn1.setCell ⟨wr.heap.size, 2, none⟩ u) from fun u => HB21.out.setCell (p := ⟨wr.heap.size, 2, none⟩) (Nat.le_refl _) u)
          cases hn2 : numF r1.data.toList with
          | none =>
            rw [show numV none = .tuple #[.int .i64 0, .bool false] from rfl]
            have HRSF := Lib.hid (hrs.out.step (HBS2.out (.int .i64 0)))
            obtain ⟨⟨b0, b1, b2⟩, _, ⟨q0, q1, q2⟩, g0, g1, g2⟩ := HRSC.out.cells
            go_wp2_with fail
            have hres := heap_set_at (heap_set_at (heap_set_at HRSF.out.res (i := 0) (.slice A ts.length cp)) (i := 1) (.int .i64 0)) (i := 2) (.int .i64 0)
            obtain ⟨z0, z1, z2⟩ := box3 hres
            refine bodyPost_ret (by simp [results, Tryz.results19, go_sem, z0, z1, z2]; rfl) rfl ?_
            exact ⟨((HRSF.out.below.setCell (p := ⟨w.heap.size, 0, none⟩) (Nat.le_refl _) _).setCell (p := ⟨w.heap.size, 1, none⟩) (Nat.le_refl _) _).setCell (p := ⟨w.heap.size, 2, none⟩) (Nat.le_refl _) _, .inr ⟨HNONE.out (by unfold tierF; rw [← HY0.out, HN0.out]; dsimp only; rw [← HR0.out, ← HY1.out, HN1.out]; dsimp only; rw [← HR1.out, hn2]), _, _, _, _, _, rfl⟩⟩
          | some n2 =>
            rw [show numV (some n2) = .tuple #[.int .i64 (n2 : Nat), .bool true] from rfl]
            have HB22 := Lib.hid (HBS2.out (.int .i64 (n2 : Nat)))
            have HA22 := Lib.hid (HA21.out.set.2.2 (n2 : Nat))
            have HN2 := Lib.hid hn2
            clear HBS2 HB21 HA21 HRSC hn2
            go_wp2_with fail
            clear x0 x1 x2 f0 f1 f2
            generalize wn1.setCell ⟨wr.heap.size, 2, none⟩ (.int .i64 (n2 : Nat)) = wn2 at *
            rw [rounds_succ]
            have HTF := Lib.hid (show tierF x.data.toList = some (n0, n1, n2) by unfold tierF; rw [← HY0.out, HN0.out]; dsimp only; rw [← HR0.out, ← HY1.out, HN1.out]; dsimp only; rw [← HR1.out, HN2.out])
            have HRS3 := Lib.hid (hrs.out.step HB22.out)
            obtain ⟨⟨x0, x1, x2⟩, _, _, _⟩ := HA22.out.cells
            obtain ⟨⟨b0, b1, b2⟩, _, _, _⟩ := HRS3.out.cells
            have HRS4 := Lib.hid (HRS3.out.step (Below.new wn2 (.cells #[.int .i64 (n0 : Nat), .int .i64 (n1 : Nat), .int .i64 (n2 : Nat)] 35)))
            have hlen : ts.length ≤ 4294967296 := by rw [tiersTo_len hts.out]; omega
            have hsz : w.heap.size ≤ (wn2.alloc (.cells #[.int .i64 (n0 : Nat), .int .i64 (n1 : Nat), .int .i64 (n2 : Nat)] 35)).heap.size := HRS4.out.below.size
            go_wp2_with (at_builtin; refine append_tier rfl _ _ rfl w.heap.size (.slice A ts.length cp) ts rfl HRS4.out.own wn2.heap.size (n0, n1, n2) rfl (heap_alloc_new wn2 _) hlen hsz ?_; intro v' w' ho hg2; obtain ⟨A2, cp2, rfl⟩ := ho.form; have HRS5 := Lib.hid (HRS4.out.grown ho hg2); obtain ⟨b3, _, _⟩ := box3 (HRS4.out.box_grown hg2); have f3 := HRS4.out.box_thaw hg2; clear ho hg2)
            go_roundw
            case rel =>
              rw [show (ts ++ [(n0, n1, n2)]).length = ts.length + 1 by simp] at HRS5
              exact ⟨k + 1, _, _, by go_num, rfl, h, Lib.hid (HSTEP.out _ HTF.out), HRS5⟩
            case measure => simp [intOf]; omega
      -- DONE
    · -- PAIRS
      obtain rfl : k = P.length := by omega
      have HREAD := Lib.hid (show readF s = if W.length % 2 = 1 then (match pairsTo (nth W) (W.length / 2) with
          | none => none
          | some (l, m) => some (ts, l, m)) else none by
        unfold readF
        rw [HWW.out, HQ.out, HPP.out, hts.out]
        rfl)
      obtain ⟨A, cp, rfl⟩ := hrs.out.own.form
      by_cases hod : W.length % 2 = 1
      · have ho : (W.length : Int) % 2 = 1 := by omega
        have HOD := Lib.hid hod
        have e1 : Int.tmod (W.length : Int) 2 = 1 := by rw [Int.tmod_eq_emod_of_nonneg (by omega)]; exact ho
        have HREAD := Lib.hid (HREAD.out.trans (if_pos hod))
        clear hod ho
        go_wp2_with fail
        go_loopw [15] (fun vi wq => ∃ i j l m : Nat, vi = .int .i64 i ∧ Hid (i = 2 * j + 1) ∧ i ≤ W.length ∧ Hid (pairsTo (nth W) j = some (l, m)) ∧ Hid (RS w wq W P (.slice A ts.length cp) ts l m)) (fun vi _ => W.length - (intOf vi).toNat)
        case atStart => exact ⟨1, 0, 0, 0, rfl, rfl, by omega, rfl, hrs⟩
        case round =>
          obtain ⟨i, j, l, m', rfl, hij, hi, hp, hrq⟩ := hrel
          obtain ⟨⟨b0, b1, b2⟩, ⟨t0, t1, t2⟩, ⟨q0, q1, q2⟩, g0, g1, g2⟩ := hrq.out.cells
          rcases Nat.lt_or_ge i W.length with hlt | hge
          · have hlt1 : i + 1 < W.length := by have := HOD.out; have := hij.out; omega
            have hlI : (i : Int) < W.length := by omega
            have hlI1 : (i : Int) + 1 < W.length := by omega
            have c0 := strs_at hrq.out.words hlt
            have c1 := strs_at hrq.out.words hlt1
            have HNONE := Lib.hid (show pairStep (W.getD i ⟨#[]⟩).data.toList (W.getD (i + 1) ⟨#[]⟩).data.toList (l, m') = none → readF s = none by
              intro hps
              have h2 : pairsTo (nth W) (W.length / 2) = none := pairsTo_none hp.out (by rw [show 2 * j + 2 = i + 1 by have := hij.out; omega, ← hij.out]; exact hps) _ (by have := hij.out; omega)
              rw [HREAD.out, h2])
            have HSTEP := Lib.hid (show pairsTo (nth W) (j + 1) = pairStep (W.getD i ⟨#[]⟩).data.toList (W.getD (i + 1) ⟨#[]⟩).data.toList (l, m') by
              show (match pairsTo (nth W) j with
                | none => none
                | some x => pairStep (nth W (2 * j + 1)) (nth W (2 * j + 2)) x) = _
              rw [hp.out, show 2 * j + 2 = i + 1 by have := hij.out; omega, ← hij.out]
              rfl)
            generalize W.getD i ⟨#[]⟩ = key at *
            generalize W.getD (i + 1) ⟨#[]⟩ = val at *
            go_wp2_with fail
            refine (number_any val _).mono ?_
            rintro e w2 ⟨rfl, rfl⟩
            cases hn : numF val.data.toList with
            | none =>
              have HN := Lib.hid (HNONE.out (by unfold pairStep; rw [hn]))
              rw [show numV none = .tuple #[.int .i64 0, .bool false] from rfl]
              clear hn HNONE HSTEP
              go_wp2_with fail
              have hres := heap_set_at (heap_set_at (heap_set_at hrq.out.res (i := 0) (.slice A ts.length cp)) (i := 1) (.int .i64 l)) (i := 2) (.int .i64 m')
              obtain ⟨z0, z1, z2⟩ := box3 hres
              refine bodyPost_ret (by simp [results, Tryz.results19, go_sem, z0, z1, z2]; rfl) rfl ?_
              exact ⟨((hrq.out.below.setCell (p := ⟨w.heap.size, 0, none⟩) (Nat.le_refl _) _).setCell (p := ⟨w.heap.size, 1, none⟩) (Nat.le_refl _) _).setCell (p := ⟨w.heap.size, 2, none⟩) (Nat.le_refl _) _, .inr ⟨HN.out, _, _, _, _, _, rfl⟩⟩
            | some n =>
              have HN := Lib.hid hn
              rw [show numV (some n) = .tuple #[.int .i64 (n : Nat), .bool true] from rfl]
              clear hn
              cases k1 : (key.toList == [109, 105, 110]) with
              | true =>
                have HS := Lib.hid (show pairsTo (nth W) (j + 1) = some (n, m') from HSTEP.out.trans (by unfold pairStep; rw [HN.out]; exact if_pos (by rw [← bytes_toList]; exact eq_of_beq k1)))
                clear HSTEP HNONE
                go_wp2_with fail
                go_roundw
                case rel => exact ⟨i + 2, j + 1, n, m', by go_num, Lib.hid (by have := hij.out; omega), by omega, HS, Lib.hid (hrq.out.put hrq.out.own rfl)⟩
                case measure => simp [intOf]; omega
              | false =>
                have ne1 : ¬ key.data.toList = [109, 105, 110] := by rw [← bytes_toList]; exact ne_of_beq_false k1
                cases k2 : (key.toList == [109, 97, 120]) with
                | true =>
                  have HS := Lib.hid (show pairsTo (nth W) (j + 1) = some (l, n) from HSTEP.out.trans (by unfold pairStep; rw [HN.out]; dsimp only; rw [if_neg ne1]; exact if_pos (by rw [← bytes_toList]; exact eq_of_beq k2)))
                  clear HSTEP HNONE ne1
                  go_wp2_with fail
                  go_roundw
                  case rel => exact ⟨i + 2, j + 1, l, n, by go_num, Lib.hid (by have := hij.out; omega), by omega, HS, Lib.hid (hrq.out.put hrq.out.own rfl)⟩
                  case measure => simp [intOf]; omega
                | false =>
                  have ne2 : ¬ key.data.toList = [109, 97, 120] := by rw [← bytes_toList]; exact ne_of_beq_false k2
                  have HF := Lib.hid (HNONE.out (by unfold pairStep; rw [HN.out]; dsimp only; rw [if_neg ne1, if_neg ne2]))
                  clear HSTEP HNONE ne1 ne2
                  go_wp2_with fail
                  have hres := heap_set_at (heap_set_at (heap_set_at hrq.out.res (i := 0) (.slice A ts.length cp)) (i := 1) (.int .i64 l)) (i := 2) (.int .i64 m')
                  obtain ⟨z0, z1, z2⟩ := box3 hres
                  refine bodyPost_ret (by simp [results, Tryz.results19, go_sem, z0, z1, z2]; rfl) rfl ?_
                  exact ⟨((hrq.out.below.setCell (p := ⟨w.heap.size, 0, none⟩) (Nat.le_refl _) _).setCell (p := ⟨w.heap.size, 1, none⟩) (Nat.le_refl _) _).setCell (p := ⟨w.heap.size, 2, none⟩) (Nat.le_refl _) _, .inr ⟨HF.out, _, _, _, _, _, rfl⟩⟩
          · obtain rfl : i = W.length := by omega
            have HJ := Lib.hid (show W.length / 2 = j by have := hij.out; omega)
            have HRES := Lib.hid (show readF s = some (ts, l, m') by rw [HREAD.out, HJ.out, hp.out])
            go_wp2_with fail
            have hres := heap_set_at (heap_set_at (heap_set_at hrq.out.res (i := 0) (.slice A ts.length cp)) (i := 1) (.int .i64 l)) (i := 2) (.int .i64 m')
            obtain ⟨z0, z1, z2⟩ := box3 hres
            refine bodyPost_ret (by simp [results, Tryz.results19, go_sem, z0, z1, z2]; rfl) rfl ?_
            exact ⟨((hrq.out.below.setCell (p := ⟨w.heap.size, 0, none⟩) (Nat.le_refl _) _).setCell (p := ⟨w.heap.size, 1, none⟩) (Nat.le_refl _) _).setCell (p := ⟨w.heap.size, 2, none⟩) (Nat.le_refl _) _, .inl ⟨ts, l, m', _, HRES.out, own_set (own_set (own_set hrq.out.own hrq.out.res (by decide) _) (heap_set_at hrq.out.res _) (by decide) _) (heap_set_at (heap_set_at hrq.out.res _) _) (by decide) _, rfl⟩⟩

      · have HNONE := Lib.hid (HREAD.out.trans (if_neg hod))
        have ho : (W.length : Int) % 2 = 0 := by omega
        have e1 : Int.tmod (W.length : Int) 2 = 0 := by rw [Int.tmod_eq_emod_of_nonneg (by omega)]; exact ho
        clear hod ho
        have HRSF := hrs
        obtain ⟨⟨b0, b1, b2⟩, _, ⟨q0, q1, q2⟩, g0, g1, g2⟩ := hrs.out.cells
        go_wp2_with fail
        have hres := heap_set_at (heap_set_at (heap_set_at HRSF.out.res (i := 0) (.slice A ts.length cp)) (i := 1) (.int .i64 0)) (i := 2) (.int .i64 0)
        obtain ⟨z0, z1, z2⟩ := box3 hres
        refine bodyPost_ret (by simp [results, Tryz.results19, go_sem, z0, z1, z2]; rfl) rfl ?_
        exact ⟨((HRSF.out.below.setCell (p := ⟨w.heap.size, 0, none⟩) (Nat.le_refl _) _).setCell (p := ⟨w.heap.size, 1, none⟩) (Nat.le_refl _) _).setCell (p := ⟨w.heap.size, 2, none⟩) (Nat.le_refl _) _, .inr ⟨HNONE.out, _, _, _, _, _, rfl⟩⟩
end Go.Proofs.YtikkocdbaekjmaaGreatDoor
