/- fees.Parse: walked. -/
import Derived.Test.YtikkocdbaekjmaaGreatDoorFeeG
namespace Go.Proofs.YtikkocdbaekjmaaGreatDoor
open Go.RowKit

/-- The i-th tier of a list. -/
def tierAt (ts : List (Nat × Nat × Nat)) (i : Nat) : Tier := ⟨((ts.getD i (0, 0, 0)).1 : Nat), ((ts.getD i (0, 0, 0)).2.1 : Nat), ((ts.getD i (0, 0, 0)).2.2 : Nat)⟩
theorem tCells_at : ∀ (ts : List (Nat × Nat × Nat)) (i : Nat), i < ts.length → (tCells ts)[i * 3]? = some (.int .i64 (tierAt ts i).fr) ∧ (tCells ts)[i * 3 + 1]? = some (.int .i64 (tierAt ts i).fl) ∧ (tCells ts)[i * 3 + 2]? = some (.int .i64 (tierAt ts i).rt)
  | (a, b, c) :: r, 0, h => ⟨rfl, rfl, rfl⟩
  | (a, b, c) :: r, i + 1, h => by
    have ih := tCells_at r i (by simpa using h)
    rw [show (i + 1) * 3 = i * 3 + 1 + 1 + 1 by omega]
    exact ih
theorem tiers_own {w : World} {B : Nat} {A : Option Addr} {c : Nat} {ts : List (Nat × Nat × Nat)} (h : OwnT w B (.slice A ts.length c) ts) : Tiers w A ts.length (tierAt ts) := by
  rcases Nat.eq_zero_or_pos ts.length with h0 | h0
  · exact .inl h0
  obtain ⟨g, cap, e, hB, hg⟩ := World.ownsRow.form h h0
  cases e
  have hc := World.ownsRow.cells h (g := g) rfl
  have hadd : ∀ i, (⟨g, 0, none⟩ : Addr).add i = ⟨g, i, none⟩ := fun i => by unfold Addr.add; split <;> simp_all
  refine .inr ⟨g, 0, rfl, hg, fun i hi => ⟨?_, ?_, ?_⟩⟩
  · have := hc (i * 3) _ (tCells_at ts i hi).1
    rw [hadd] at this
    rw [Nat.zero_add]; exact this
  · have := hc (i * 3 + 1) _ (tCells_at ts i hi).2.1
    rw [hadd] at this
    rw [Nat.zero_add]; exact this
  · have := hc (i * 3 + 2) _ (tCells_at ts i hi).2.2
    rw [hadd] at this
    rw [Nat.zero_add]; exact this
theorem OwnT.step {w w' : World} {B : Nat} {v : Value} {ts : List (Nat × Nat × Nat)} (h : OwnT w B v ts) (hb : Below w.heap.size w w') : OwnT w' B v ts := h.keep fun k hk => hb.block k (h.block k hk).2.1
theorem thaw3 {w : World} {g : Nat} {c : Array Value} {t : TypeId} (h : w.heap[g]? = some (.cells c t (0, 0))) : w.frozen? ⟨g, 0, none⟩ = false ∧ w.frozen? ⟨g, 1, none⟩ = false ∧ w.frozen? ⟨g, 2, none⟩ = false := by
  refine ⟨?_, ?_, ?_⟩ <;> unfold World.frozen? <;> rw [h] <;> rfl
theorem OwnT.weaken {w : World} {B B' : Nat} {v : Value} {ts : List (Nat × Nat × Nat)} (h : OwnT w B' v ts) (hB : B ≤ B') : OwnT w B v ts := by
  rcases h with ⟨h1, h2 | ⟨g, cap, cur, rfl, hg, hr⟩⟩
  · exact ⟨h1, .inl h2⟩
  · exact ⟨h1, .inr ⟨g, cap, cur, rfl, Nat.le_trans hB hg, hr⟩⟩
theorem tab_below {w w' : World} (h : Tab w) (hb : Below w.heap.size w w') : Tab w' := Lib.tabBelow_of_tabIs h w' hb
/-- What Parse takes a text for. -/
def parseF (s : ByteArray) : Option (List (Nat × Nat × Nat) × Nat × Nat) :=
  match readF s with
  | none => none
  | some (ts, l, m) => if goodB ts.length (tierAt ts) l m = true ∧ feeTxt ts.length (tierAt ts) l m = s.data.toList then some (ts, l, m) else none
def ParsePost (B : Nat → Addr) (w : World) (s : ByteArray) (e : Ending) (w' : World) : Prop := Below w.heap.size w w' ∧ ((∃ ts l m A c, parseF s = some (ts, l, m) ∧ OwnT w' w.heap.size (.slice A ts.length c) ts ∧ e = .returned (.tuple #[.agg #[.slice A ts.length c, .int .i64 (l : Nat), .int .i64 (m : Nat)], .nilIface])) ∨
  (parseF s = none ∧ e = .returned (.tuple #[.agg #[.slice none 0 0, .int .i64 0, .int .i64 0], ev B 7])))
set_option maxRecDepth 100000 in
set_option maxHeartbeats 4000000 in
theorem parse_any (B : Nat → Addr) (s : ByteArray) (m : Int) (w : World) (hs : s.size < 4294967281) (hm : w.cell? ⟨39, 0, none⟩ = some (.int .i64 m)) (hE : Env w B) (htab : Tab w) :
    Calls Tryz.prog 7 #[.string s] w fun e w' => ParsePost B w s e w' := by
  have HE := Lib.hid hE; have HTAB := Lib.hid htab
  have hb0 := Below.new w (.cells #[.slice none 0 0, .int .i64 0, .int .i64 0] 25)
  have a1 := read_any s m (w.alloc (.cells #[.slice none 0 0, .int .i64 0, .int .i64 0] 25)) hs ((hb0.cell (p := ⟨39, 0, none⟩) (World.block_lt_of_cell? _ _ hm)).trans hm)
  have HB0 := Lib.hid hb0
  have HR0 := Lib.hid (show (w.alloc (.cells #[.slice none 0 0, .int .i64 0, .int .i64 0] 25)).heap[w.heap.size]? = some (.cells #[.slice none 0 0, .int .i64 0, .int .i64 0] 25 (0, 0)) from heap_alloc_new w _)
  clear hE htab hb0 hm
  have hw0 : 0 < w.heap.size := World.block_lt_of_cell? w ⟨0, 0, none⟩ (HE.out.cell 0 (by decide))
  go_enter Tryz.func7, Tryz.ntmps7
  go_wp2_with fail
  refine a1.mono ?_
  clear a1
  rintro e w2 ⟨hb2, ⟨ts, l, m2, v, hr, ho, rfl⟩ | ⟨hr, A, n, c, l, m2, rfl⟩⟩
  · obtain ⟨A, c, rfl⟩ := ho.form
    have HO := Lib.hid ho
    have HR2 := Lib.hid (show w2.heap[w.heap.size]? = some (.cells #[.slice none 0 0, .int .i64 0, .int .i64 0] 25 (0, 0)) from (hb2.block _ (by simp)).trans HR0.out)
    have HB2 := Lib.hid (HB0.out.trans (hb2.mono HB0.out.size))
    have HB3 := Lib.hid (HB2.out.alloc HB2.out.size (.cells #[.slice A ts.length c, .int .i64 (l : Nat), .int .i64 (m2 : Nat)] 25))
    have HR3 := Lib.hid (alloc_old HR2.out (.cells #[.slice A ts.length c, .int .i64 (l : Nat), .int .i64 (m2 : Nat)] 25))
    have HX3 := Lib.hid (show (w2.alloc (.cells #[.slice A ts.length c, .int .i64 (l : Nat), .int .i64 (m2 : Nat)] 25)).heap[w2.heap.size]? = some (.cells #[.slice A ts.length c, .int .i64 (l : Nat), .int .i64 (m2 : Nat)] 25 (0, 0)) from heap_alloc_new w2 _)
    have HO3 := Lib.hid (HO.out.step (Below.new w2 (.cells #[.slice A ts.length c, .int .i64 (l : Nat), .int .i64 (m2 : Nat)] 25)))
    have a2 := check_any B A ts.length c (tierAt ts) l m2 _ (HE.out.below HB3.out) (tiers_own HO3.out)
    unfold feeV at a2
    have hsz : w.heap.size < w2.heap.size := lt_of_block HR2.out
    have HRD := Lib.hid hr
    clear hr hb2 ho HO HR2 HB2
    go_wp2_with fail
    refine a2.mono ?_
    clear a2
    rintro e w4 ⟨rfl, hb4⟩
    generalize w2.alloc (.cells #[.slice A ts.length c, .int .i64 (l : Nat), .int .i64 (m2 : Nat)] 25) = w3 at *
    generalize hgx : w2.heap.size = gx at *
    clear hgx
    have HBX := Lib.hid (HB3.out.trans (hb4.mono HB3.out.size))
    have HRX := Lib.hid ((hb4.block _ (lt_of_block HR3.out)).trans HR3.out)
    have HX4 := Lib.hid ((hb4.block _ (lt_of_block HX3.out)).trans HX3.out)
    have HO4 := Lib.hid (HO3.out.step hb4)
    clear hb4 HB3 HR3 HX3 HO3
    cases hG : goodB ts.length (tierAt ts) l m2 with
    | false =>
      have HN := Lib.hid (show parseF s = none by unfold parseF; rw [HRD.out]; exact if_neg fun h => by rw [hG] at h; cases h.1)
      rw [show chkV B false = .iface 292 (.pointer (some (B 0))) from rfl]
      clear hG HX4 HO4
      have hge := (HE.out.below HBX.out).cell 0 (by decide)
      obtain ⟨q0, q1, q2⟩ := box3 HRX.out
      obtain ⟨z0, z1, z2⟩ := thaw3 HRX.out
      go_wp2_with fail
      go_region
      all_goals go_wp2_with fail
      have hres := heap_set_at (heap_set_at (heap_set_at HRX.out (i := 0) (.slice none 0 0)) (i := 1) (.int .i64 0)) (i := 2) (.int .i64 0)
      obtain ⟨r0, r1, r2⟩ := box3 hres
      refine bodyPost_ret (by simp [results, Tryz.results8, go_sem, r0, r1, r2]; rfl) rfl ?_
      exact ⟨(((HBX.out.setCell (p := ⟨w.heap.size, 0, none⟩) (Nat.le_refl _) _).setCell (p := ⟨w.heap.size, 1, none⟩) (Nat.le_refl _) _).setCell (p := ⟨w.heap.size, 2, none⟩) (Nat.le_refl _) _).drew, .inr ⟨HN.out, rfl⟩⟩
    | true =>
      have a3 := text_any A ts.length c (tierAt ts) l m2 w4 (tiers_own HO4.out) (tab_below HTAB.out HBX.out) (goodP hG)
      unfold feeV at a3
      rw [show chkV B true = .nilIface from rfl]
      obtain ⟨x0, x1, x2⟩ := box3 HX4.out
      have HPF := Lib.hid (show feeTxt ts.length (tierAt ts) l m2 = s.data.toList → parseF s = some (ts, l, m2) from fun h => by unfold parseF; rw [HRD.out]; exact if_pos ⟨hG, h⟩)
      have HPN := Lib.hid (show ¬ feeTxt ts.length (tierAt ts) l m2 = s.data.toList → parseF s = none from fun h => by unfold parseF; rw [HRD.out]; exact if_neg fun h2 => h h2.2)
      have hx : (⟨(feeTxt ts.length (tierAt ts) l m2).toArray⟩ : ByteArray).toList = feeTxt ts.length (tierAt ts) l m2 := by rw [bytes_toList]
      generalize (⟨(feeTxt ts.length (tierAt ts) l m2).toArray⟩ : ByteArray) = x at *
      generalize feeTxt ts.length (tierAt ts) l m2 = F at *
      have HXX := Lib.hid hx
      clear hG hx
      go_wp2_with fail
      refine a3.mono ?_
      clear a3 x0 x1 x2
      rintro e w5 ⟨rfl, hb5⟩
      have HBX := Lib.hid (HBX.out.trans (hb5.mono HBX.out.size))
      have HRX := Lib.hid ((hb5.block _ (lt_of_block HRX.out)).trans HRX.out)
      have HX5 := Lib.hid ((hb5.block _ (lt_of_block HX4.out)).trans HX4.out)
      have HO5 := Lib.hid (HO4.out.step hb5)
      clear hb5 HX4 HO4
      cases k : (x.toList == s.toList) with
      | false =>
        have HN := Lib.hid (HPN.out (by rw [← HXX.out, ← bytes_toList]; exact ne_of_beq_false k))
        have k2 : (x.toList != s.toList) = true := by unfold bne; rw [k]; rfl
        have hge := (HE.out.below HBX.out).cell 0 (by decide)
        obtain ⟨q0, q1, q2⟩ := box3 HRX.out
        obtain ⟨z0, z1, z2⟩ := thaw3 HRX.out
        go_wp2_with fail
        go_region
        all_goals go_wp2_with fail
        have hres := heap_set_at (heap_set_at (heap_set_at HRX.out (i := 0) (.slice none 0 0)) (i := 1) (.int .i64 0)) (i := 2) (.int .i64 0)
        obtain ⟨r0, r1, r2⟩ := box3 hres
        refine bodyPost_ret (by simp [results, Tryz.results8, go_sem, r0, r1, r2]; rfl) rfl ?_
        exact ⟨(((HBX.out.setCell (p := ⟨w.heap.size, 0, none⟩) (Nat.le_refl _) _).setCell (p := ⟨w.heap.size, 1, none⟩) (Nat.le_refl _) _).setCell (p := ⟨w.heap.size, 2, none⟩) (Nat.le_refl _) _).drew, .inr ⟨HN.out, rfl⟩⟩
      | true =>
        have HS := Lib.hid (HPF.out (by rw [← HXX.out, ← bytes_toList]; exact eq_of_beq k))
        have k2 : (x.toList != s.toList) = false := by unfold bne; rw [k]; rfl
        obtain ⟨q0, q1, q2⟩ := box3 HRX.out
        obtain ⟨z0, z1, z2⟩ := thaw3 HRX.out
        obtain ⟨x0, x1, x2⟩ := box3 HX5.out
        go_wp2_with fail
        have hres := heap_set_at (heap_set_at (heap_set_at HRX.out (i := 0) (.slice A ts.length c)) (i := 1) (.int .i64 l)) (i := 2) (.int .i64 m2)
        obtain ⟨r0, r1, r2⟩ := box3 hres
        refine bodyPost_ret (by simp [results, Tryz.results8, go_sem, r0, r1, r2]; rfl) rfl ?_
        refine ⟨((HBX.out.setCell (p := ⟨w.heap.size, 0, none⟩) (Nat.le_refl _) _).setCell (p := ⟨w.heap.size, 1, none⟩) (Nat.le_refl _) _).setCell (p := ⟨w.heap.size, 2, none⟩) (Nat.le_refl _) _, .inl ⟨ts, l, m2, A, c, HS.out, ?_, rfl⟩⟩
        exact own_set (own_set (own_set (HO5.out.weaken (by simp)) HRX.out (by decide) _) (heap_set_at HRX.out _) (by decide) _) (heap_set_at (heap_set_at HRX.out _) _) (by decide) _
  · have HR2 := Lib.hid (show w2.heap[w.heap.size]? = some (.cells #[.slice none 0 0, .int .i64 0, .int .i64 0] 25 (0, 0)) from (hb2.block _ (by simp)).trans HR0.out)
    have HN := Lib.hid (show parseF s = none by unfold parseF; rw [hr])
    have HB2 := Lib.hid (HB0.out.trans (hb2.mono HB0.out.size))
    have HBX := Lib.hid (HB2.out.alloc HB2.out.size (.cells #[.slice A n c, .int .i64 l, .int .i64 m2] 25))
    have HRX := Lib.hid (alloc_old HR2.out (.cells #[.slice A n c, .int .i64 l, .int .i64 m2] 25))
    have hsz : w.heap.size < w2.heap.size := lt_of_block HR2.out
    have hge := (HE.out.below HBX.out).cell 0 (by decide)
    obtain ⟨q0, q1, q2⟩ := box3 HRX.out
    obtain ⟨z0, z1, z2⟩ := thaw3 HRX.out
    clear hr hb2
    go_wp2_with fail
    generalize w2.alloc (.cells #[.slice A n c, .int .i64 l, .int .i64 m2] 25) = w3 at *
    go_region
    all_goals go_wp2_with fail
    have hres := heap_set_at (heap_set_at (heap_set_at HRX.out (i := 0) (.slice none 0 0)) (i := 1) (.int .i64 0)) (i := 2) (.int .i64 0)
    obtain ⟨r0, r1, r2⟩ := box3 hres
    refine bodyPost_ret (by simp [results, Tryz.results8, go_sem, r0, r1, r2]; rfl) rfl ?_
    exact ⟨(((HBX.out.setCell (p := ⟨w.heap.size, 0, none⟩) (Nat.le_refl _) _).setCell (p := ⟨w.heap.size, 1, none⟩) (Nat.le_refl _) _).setCell (p := ⟨w.heap.size, 2, none⟩) (Nat.le_refl _) _).drew, .inr ⟨HN.out, rfl⟩⟩
end Go.Proofs.YtikkocdbaekjmaaGreatDoor
