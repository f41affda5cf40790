/- math/big: Int.QuoRem of a number not below nought by a word, into new numbers: walked (printed by gen_quorem.py). -/
import Derived.Test.YthkobjbemmllfaaGreatDoorBigN
import Derived.Test.YthkobjbemmllfaaGreatDoorHeldR
import Derived.Deep.DrawnRows
namespace Go.Proofs.YthkobjbemmllfaaGreatDoor
open Go.RowKit
attribute [local go_sem ↓] Go.wp_at_zero Go.wp_at_succ

theorem cell_at {w : World} {g : Nat} {z : Bool} {v : Value} (h : w.heap[g]? = some (.cells #[.bool z, v] 48 (0, 0))) : w.cell? ⟨g, 0, none⟩ = some (.bool z) ∧ w.cell? ⟨g, 1, none⟩ = some v ∧ w.frozen? ⟨g, 0, none⟩ = false ∧ w.frozen? ⟨g, 1, none⟩ = false := by
  refine ⟨?_, ?_, ?_, ?_⟩ <;> (first | unfold World.cell? | unfold World.frozen?) <;> rw [h] <;> rfl
/-- Four numbers in blocks of their own. -/
structure Four4 (w : World) (gz gr gx gy : Nat) (bz br : Bool) (xv yv : Value) : Prop where
  z : w.heap[gz]? = some (.cells #[.bool bz, .slice none 0 0] 48 (0, 0))
  r : w.heap[gr]? = some (.cells #[.bool br, .slice none 0 0] 48 (0, 0))
  x : w.heap[gx]? = some (.cells #[.bool false, xv] 48 (0, 0))
  y : w.heap[gy]? = some (.cells #[.bool false, yv] 48 (0, 0))
  zr : gz ≠ gr
  zx : gz ≠ gx
  zy : gz ≠ gy
  rx : gr ≠ gx
  ry : gr ≠ gy
theorem lt_of_block {w : World} {g : Nat} {o : Obj} (h : w.heap[g]? = some o) : g < w.heap.size := by
  rcases Nat.lt_or_ge g w.heap.size with h' | h'
  · exact h'
  · rw [Array.getElem?_eq_none h'] at h; cases h
/-- What QuoRem and DivMod leave. -/
def QPost (base gz gr q r : Nat) (w : World) (e : Ending) (w' : World) : Prop :=
  ∃ v u, e = .returned (.tuple #[.pointer (some ⟨gz, 0, none⟩), .pointer (some ⟨gr, 0, none⟩)]) ∧ w'.heap[gz]? = some (.cells #[.bool false, v] 48 (0, 0)) ∧ w'.heap[gr]? = some (.cells #[.bool false, u] 48 (0, 0)) ∧ Nv w' base v q ∧ Nv w' base u r ∧
    (w'.os = w.os ∧ w'.tape = w.tape ∧ w'.output = w.output ∧ w.heap.size ≤ w'.heap.size ∧ ∀ k, k < w.heap.size → k ≠ gz → k ≠ gr → w'.heap[k]? = w.heap[k]?) ∧ (v.ownBlock = none ∨ ∃ k, v.ownBlock = some k ∧ w.heap.size ≤ k) ∧ (u.ownBlock = none ∨ ∃ k, u.ownBlock = some k ∧ w.heap.size ≤ k) ∧ (u.ownBlock = none ∨ v.ownBlock ≠ u.ownBlock)
def qw (gz gr : Nat) (v u : Value) (w : World) : World := ((w.setCell ⟨gz, 1, none⟩ v).setCell ⟨gr, 1, none⟩ u)
theorem heap_set {w : World} {g : Nat} {z : Bool} {v : Value} (h : w.heap[g]? = some (.cells #[.bool z, v] 48 (0, 0))) (u : Value) : (w.setCell ⟨g, 1, none⟩ u).heap[g]? = some (.cells #[.bool z, u] 48 (0, 0)) := by
  show (w.heap.modify g _)[g]? = _
  rw [Array.getElem?_modify, if_pos rfl, h]
  rfl
theorem heap_set0 {w : World} {g : Nat} {z : Bool} {v : Value} (h : w.heap[g]? = some (.cells #[.bool z, v] 48 (0, 0))) (u : Bool) : (w.setCell ⟨g, 0, none⟩ (.bool u)).heap[g]? = some (.cells #[.bool u, v] 48 (0, 0)) := by
  show (w.heap.modify g _)[g]? = _
  rw [Array.getElem?_modify, if_pos rfl, h]
  rfl
theorem qw_other (gz gr : Nat) (v u : Value) (w : World) {k : Nat} (h1 : k ≠ gz) (h2 : k ≠ gr) : (qw gz gr v u w).heap[k]? = w.heap[k]? :=
  (Below.heap_setCell _ ⟨gr, 1, none⟩ _ k h2).trans (Below.heap_setCell w ⟨gz, 1, none⟩ _ k h1)
theorem qw_z {gz gr : Nat} {v u x : Value} {w : World} {b : Bool} (h : w.heap[gz]? = some (.cells #[.bool b, x] 48 (0, 0))) (hne : gz ≠ gr) : (qw gz gr v u w).heap[gz]? = some (.cells #[.bool b, v] 48 (0, 0)) :=
  (Below.heap_setCell _ ⟨gr, 1, none⟩ _ gz hne).trans (heap_set h v)
theorem qw_r {gz gr : Nat} {v u x : Value} {w : World} {b : Bool} (h : w.heap[gr]? = some (.cells #[.bool b, x] 48 (0, 0))) (hne : gz ≠ gr) : (qw gz gr v u w).heap[gr]? = some (.cells #[.bool b, u] 48 (0, 0)) :=
  heap_set ((Below.heap_setCell w ⟨gz, 1, none⟩ _ gr hne.symm).trans h) u
theorem QPost.fin {base gz gr gx gy q r : Nat} {bz br : Bool} {xv yv v u : Value} {w w2 w3 : World} (h : Four4 w gz gr gx gy bz br xv yv) (hv : Nv w2 base v q) (hu : Nv w2 base u r) (hgr : ∃ n, (w.drewN n).grownBy w2 none)
    (hov : v.ownBlock = none ∨ ∃ k, v.ownBlock = some k ∧ w.heap.size ≤ k) (hou : u.ownBlock = none ∨ ∃ k, u.ownBlock = some k ∧ w.heap.size ≤ k) (hvu : u.ownBlock = none ∨ v.ownBlock ≠ u.ownBlock) (hw : ∃ n, w3 = (qw gz gr v u w2).drewN n) :
    QPost base gz gr q r w (.returned (.tuple #[.pointer (some ⟨gz, 0, none⟩), .pointer (some ⟨gr, 0, none⟩)])) ((w3.setCell ⟨gz, 0, none⟩ (.bool false)).setCell ⟨gr, 0, none⟩ (.bool false)) := by
  obtain ⟨m, hgr⟩ := hgr
  obtain ⟨n, rfl⟩ := hw
  have lz := lt_of_block h.z
  have lr := lt_of_block h.r
  have z2 := (hgr.block gz lz (by simp)).trans h.z
  have r2 := (hgr.block gr lr (by simp)).trans h.r
  have z3 : ((qw gz gr v u w2).drewN n).heap[gz]? = _ := qw_z (v := v) (u := u) z2 h.zr
  have r3 : ((qw gz gr v u w2).drewN n).heap[gr]? = _ := qw_r (v := v) (u := u) r2 h.zr
  have oth : ∀ k, k ≠ gz → k ≠ gr → ((((qw gz gr v u w2).drewN n).setCell ⟨gz, 0, none⟩ (.bool false)).setCell ⟨gr, 0, none⟩ (.bool false)).heap[k]? = w2.heap[k]? := fun k h1 h2 =>
    (Below.heap_setCell _ ⟨gr, 0, none⟩ _ k h2).trans ((Below.heap_setCell _ ⟨gz, 0, none⟩ _ k h1).trans (qw_other gz gr v u w2 h1 h2))
  have nb : ∀ {x : Value} {M k : Nat}, Nv w2 base x M → x.ownBlock = some k → k ≠ gz ∧ k ≠ gr := fun hN hk => by
    obtain ⟨_, _, cur, hc⟩ := hN.block hk
    constructor
    · rintro rfl
      rw [z2] at hc; injection hc with hc; injection hc with _ hc _; cases hc
    · rintro rfl
      rw [r2] at hc; injection hc with hc; injection hc with _ hc _; cases hc
  refine ⟨v, u, rfl, ?_, ?_, hv.keep fun k hk => oth k (nb hv hk).1 (nb hv hk).2, hu.keep fun k hk => oth k (nb hu hk).1 (nb hu hk).2, ⟨hgr.os, hgr.tape, hgr.output, ?_, fun k hk h1 h2 => (oth k h1 h2).trans (hgr.block k hk (by simp))⟩, hov, hou, hvu⟩
  · exact (Below.heap_setCell _ ⟨gr, 0, none⟩ _ gz h.zr).trans (heap_set0 z3 false)
  · exact heap_set0 ((Below.heap_setCell _ ⟨gz, 0, none⟩ _ gr h.zr.symm).trans r3) false
  · have := hgr.size
    simp [World.setCell, qw]
    exact this

theorem QPost.drew {base gz gr q r : Nat} {w w' : World} {e : Ending} (h : QPost base gz gr q r w e w') (n : Nat) : QPost base gz gr q r w e (w'.drewN n) := by
  obtain ⟨v, u, h1, h2, h3, h4, h5, h6, h7⟩ := h
  exact ⟨v, u, h1, h2, h3, h4, h5, h6, h7⟩
theorem Four4.grown {w w2 : World} {n gz gr gx gy : Nat} {bz br : Bool} {xv yv : Value} (h : Four4 w gz gr gx gy bz br xv yv) (hg : (w.drewN n).grownBy w2 none) : Four4 w2 gz gr gx gy bz br xv yv :=
  ⟨(hg.block _ (lt_of_block h.z) (by simp)).trans h.z, (hg.block _ (lt_of_block h.r) (by simp)).trans h.r, (hg.block _ (lt_of_block h.x) (by simp)).trans h.x, (hg.block _ (lt_of_block h.y) (by simp)).trans h.y, h.zr, h.zx, h.zy, h.rx, h.ry⟩
theorem sOf {w : World} {gz gr gx gy : Nat} {bz br : Bool} {xv yv : Value} (h : Four4 w gz gr gx gy bz br xv yv) : w.cell? ⟨gz, 1, none⟩ = some (.slice none 0 0) ∧ w.cell? ⟨gr, 1, none⟩ = some (.slice none 0 0) ∧ w.cell? ⟨gx, 1, none⟩ = some xv ∧ w.cell? ⟨gy, 1, none⟩ = some yv :=
  ⟨(cell_at h.z).2.1, (cell_at h.r).2.1, (cell_at h.x).2.1, (cell_at h.y).2.1⟩
theorem cell_r {w : World} {gz gr gx gy : Nat} {bz br : Bool} {xv yv v : Value} (h : Four4 w gz gr gx gy bz br xv yv) : (w.setCell ⟨gz, 1, none⟩ v).cell? ⟨gr, 1, none⟩ = some (.slice none 0 0) ∧ (w.setCell ⟨gz, 1, none⟩ v).frozen? ⟨gr, 1, none⟩ = false := by
  have h2 : (w.setCell ⟨gz, 1, none⟩ v).heap[gr]? = _ := (Below.heap_setCell w ⟨gz, 1, none⟩ v gr h.zr.symm).trans h.r
  exact ⟨(cell_at h2).2.1, (cell_at h2).2.2.2⟩
/-- Behind the first statement. -/
theorem qw_cells {w : World} {gz gr gx gy : Nat} {bz br : Bool} {xv yv v u : Value} (h : Four4 w gz gr gx gy bz br xv yv) :
    ((qw gz gr v u w).cell? ⟨gz, 1, none⟩ = some v ∧ (qw gz gr v u w).cell? ⟨gr, 1, none⟩ = some u ∧ (qw gz gr v u w).cell? ⟨gx, 0, none⟩ = some (.bool false) ∧ (qw gz gr v u w).cell? ⟨gy, 0, none⟩ = some (.bool false)) ∧
    (qw gz gr v u w).cell? ⟨gz, 0, none⟩ = some (.bool bz) ∧ (qw gz gr v u w).frozen? ⟨gz, 0, none⟩ = false ∧ ∀ n, (((qw gz gr v u w).drewN n).setCell ⟨gz, 0, none⟩ (.bool false)).cell? ⟨gr, 0, none⟩ = some (.bool br) ∧ (((qw gz gr v u w).drewN n).setCell ⟨gz, 0, none⟩ (.bool false)).frozen? ⟨gr, 0, none⟩ = false := by
  have z3 := qw_z (v := v) (u := u) h.z h.zr
  have r3 := qw_r (v := v) (u := u) h.r h.zr
  have x3 := (qw_other gz gr v u w h.zx.symm h.rx.symm).trans h.x
  have y3 := (qw_other gz gr v u w h.zy.symm h.ry.symm).trans h.y
  refine ⟨⟨(cell_at z3).2.1, (cell_at r3).2.1, (cell_at x3).1, (cell_at y3).1⟩, (cell_at z3).1, (cell_at z3).2.2.1, fun n => ?_⟩
  have r4 : (((qw gz gr v u w).drewN n).setCell ⟨gz, 0, none⟩ (.bool false)).heap[gr]? = _ := (Below.heap_setCell _ ⟨gz, 0, none⟩ _ gr h.zr.symm).trans r3
  exact ⟨(cell_at r4).1, (cell_at r4).2.2.1⟩

set_option maxRecDepth 100000 in
set_option maxHeartbeats 4000000 in
theorem quoRem_any (base gz gr gx gy q r : Nat) (bz br : Bool) (xA yA : Option Addr) (xn xc yn yc : Nat) (w : World) (h : Four4 w gz gr gx gy bz br (.slice xA xn xc) (.slice yA yn yc))
    (a1 : ∀ n, Calls Tryz.prog 67 #[.slice none 0 0, .pointer none, .slice none 0 0, .slice xA xn xc, .slice yA yn yc] (w.drewN n) (DivPost base q r (w.drewN n))) :
    Calls Tryz.prog 41 #[.pointer (some ⟨gz, 0, none⟩), .pointer (some ⟨gx, 0, none⟩), .pointer (some ⟨gy, 0, none⟩), .pointer (some ⟨gr, 0, none⟩)] w (QPost base gz gr q r w) := by
  have c1 := (cell_at h.z).2.1
  have d1 := (cell_at h.r).2.1
  have x1 := (cell_at h.x).2.1
  have y1 := (cell_at h.y).2.1
  have HK := Lib.hid (show ∀ n w2, (w.drewN n).grownBy w2 none → Four4 w2 gz gr gx gy bz br (.slice xA xn xc) (.slice yA yn yc) from fun n w2 hg => h.grown hg)
  have HX := Lib.hid h
  clear h
  go_enter Tryz.func41, Tryz.ntmps41
  go_wp2_with fail
  refine wp_region_R (S := fun W => W.cell? ⟨gz, 1, none⟩ = some (.slice none 0 0) ∧ W.cell? ⟨gr, 1, none⟩ = some (.slice none 0 0) ∧ W.cell? ⟨gx, 1, none⟩ = some (.slice xA xn xc) ∧ W.cell? ⟨gy, 1, none⟩ = some (.slice yA yn yc)) (late := [24, 27]) (by kernel_rfl) ?_
  refine wpAnyR_takeY (i := 0) (v := .pointer (some ⟨gz, 0, none⟩)) rfl (by kernel_rfl) (by kernel_rfl) (by kernel_rfl) (fun _ _ _ h => h) (Or.inl ⟨by kernel_rfl, ?_⟩) ?_
  · intro W _; go_simp
  try simp only [Act.put]
  refine wpAnyR_takeY (i := 1) (v := .pointer (some ⟨gr, 0, none⟩)) rfl (by kernel_rfl) (by kernel_rfl) (by kernel_rfl) (fun _ _ _ h => h) (Or.inl ⟨by kernel_rfl, ?_⟩) ?_
  · intro W _; go_simp
  try simp only [Act.put]
  refine wpAnyR_takeY (i := 2) (v := .pointer (some ⟨gz, 0, none⟩)) rfl (by kernel_rfl) (by kernel_rfl) (by kernel_rfl) (fun _ _ _ h => h) (Or.inl ⟨by kernel_rfl, ?_⟩) ?_
  · intro W _; go_simp
  try simp only [Act.put]
  refine wpAnyR_takeY (i := 3) (v := .pointer (some ⟨gz, 0, none⟩)) rfl (by kernel_rfl) (by kernel_rfl) (by kernel_rfl) (fun _ _ _ h => h) (Or.inl ⟨by kernel_rfl, ?_⟩) ?_
  · intro W _; go_simp
  try simp only [Act.put]
  refine wpAnyR_takeY (i := 4) (v := .pointer (some ⟨gz, 1, none⟩)) rfl (by kernel_rfl) (by kernel_rfl) (by kernel_rfl) (fun _ _ _ h => h) (Or.inl ⟨by kernel_rfl, ?_⟩) ?_
  · intro W _; go_simp
  try simp only [Act.put]
  refine wpAnyR_take (i := 5) (v := .slice none 0 0) rfl (by kernel_rfl) (by kernel_rfl) (by kernel_rfl) (by kernel_rfl) (by kernel_rfl) (fun _ _ _ h => h) (Or.inl ⟨by kernel_rfl, ?_⟩) ⟨c1, d1, x1, y1⟩ ?_
  · intro W hSw; obtain ⟨s1, s2, s3, s4⟩ := hSw; go_simp
  try simp only [Act.put]
  refine wpAnyR_takeY (i := 6) (v := .pointer (some ⟨gr, 0, none⟩)) rfl (by kernel_rfl) (by kernel_rfl) (by kernel_rfl) (fun _ _ _ h => h) (Or.inl ⟨by kernel_rfl, ?_⟩) ?_
  · intro W _; go_simp
  try simp only [Act.put]
  refine wpAnyR_takeY (i := 7) (v := .pointer (some ⟨gr, 0, none⟩)) rfl (by kernel_rfl) (by kernel_rfl) (by kernel_rfl) (fun _ _ _ h => h) (Or.inl ⟨by kernel_rfl, ?_⟩) ?_
  · intro W _; go_simp
  try simp only [Act.put]
  refine wpAnyR_takeY (i := 8) (v := .pointer (some ⟨gr, 1, none⟩)) rfl (by kernel_rfl) (by kernel_rfl) (by kernel_rfl) (fun _ _ _ h => h) (Or.inl ⟨by kernel_rfl, ?_⟩) ?_
  · intro W _; go_simp
  try simp only [Act.put]
  refine wpAnyR_take (i := 9) (v := .slice none 0 0) rfl (by kernel_rfl) (by kernel_rfl) (by kernel_rfl) (by kernel_rfl) (by kernel_rfl) (fun _ _ _ h => h) (Or.inl ⟨by kernel_rfl, ?_⟩) ⟨c1, d1, x1, y1⟩ ?_
  · intro W hSw; obtain ⟨s1, s2, s3, s4⟩ := hSw; go_simp
  try simp only [Act.put]
  refine wpAnyR_takeY (i := 10) (v := .pointer (some ⟨gx, 0, none⟩)) rfl (by kernel_rfl) (by kernel_rfl) (by kernel_rfl) (fun _ _ _ h => h) (Or.inl ⟨by kernel_rfl, ?_⟩) ?_
  · intro W _; go_simp
  try simp only [Act.put]
  refine wpAnyR_takeY (i := 11) (v := .pointer (some ⟨gx, 0, none⟩)) rfl (by kernel_rfl) (by kernel_rfl) (by kernel_rfl) (fun _ _ _ h => h) (Or.inl ⟨by kernel_rfl, ?_⟩) ?_
  · intro W _; go_simp
  try simp only [Act.put]
  refine wpAnyR_takeY (i := 12) (v := .pointer (some ⟨gx, 1, none⟩)) rfl (by kernel_rfl) (by kernel_rfl) (by kernel_rfl) (fun _ _ _ h => h) (Or.inl ⟨by kernel_rfl, ?_⟩) ?_
  · intro W _; go_simp
  try simp only [Act.put]
  refine wpAnyR_take (i := 13) (v := .slice xA xn xc) rfl (by kernel_rfl) (by kernel_rfl) (by kernel_rfl) (by kernel_rfl) (by kernel_rfl) (fun _ _ _ h => h) (Or.inl ⟨by kernel_rfl, ?_⟩) ⟨c1, d1, x1, y1⟩ ?_
  · intro W hSw; obtain ⟨s1, s2, s3, s4⟩ := hSw; go_simp
  try simp only [Act.put]
  refine wpAnyR_takeY (i := 14) (v := .pointer (some ⟨gy, 0, none⟩)) rfl (by kernel_rfl) (by kernel_rfl) (by kernel_rfl) (fun _ _ _ h => h) (Or.inl ⟨by kernel_rfl, ?_⟩) ?_
  · intro W _; go_simp
  try simp only [Act.put]
  refine wpAnyR_takeY (i := 15) (v := .pointer (some ⟨gy, 0, none⟩)) rfl (by kernel_rfl) (by kernel_rfl) (by kernel_rfl) (fun _ _ _ h => h) (Or.inl ⟨by kernel_rfl, ?_⟩) ?_
  · intro W _; go_simp
  try simp only [Act.put]
  refine wpAnyR_takeY (i := 16) (v := .pointer (some ⟨gy, 1, none⟩)) rfl (by kernel_rfl) (by kernel_rfl) (by kernel_rfl) (fun _ _ _ h => h) (Or.inl ⟨by kernel_rfl, ?_⟩) ?_
  · intro W _; go_simp
  try simp only [Act.put]
  refine wpAnyR_take (i := 17) (v := .slice yA yn yc) rfl (by kernel_rfl) (by kernel_rfl) (by kernel_rfl) (by kernel_rfl) (by kernel_rfl) (fun _ _ _ h => h) (Or.inl ⟨by kernel_rfl, ?_⟩) ⟨c1, d1, x1, y1⟩ ?_
  · intro W hSw; obtain ⟨s1, s2, s3, s4⟩ := hSw; go_simp
  try simp only [Act.put]
  refine wpAnyR_one (i := 18) (by kernel_rfl) rfl (fun K hK => ?_)
  go_simp
  go_at_call 67
  refine (a1 _).mono ?_
  rintro e w2 ⟨v, u, rfl, hv, hu, hgr, hov, hou, hvu⟩
  try go_simp
  refine hK.out _ _ (.inr fun _ => sOf (HK.out _ _ hgr)) ?_
  clear hK K
  try simp only [Act.put]
  obtain ⟨vA, vn, vc, rfl, hvn⟩ := hv.form
  obtain ⟨uA, un, uc, rfl, hun⟩ := hu.form
  obtain ⟨_, f1, _, fz⟩ := cell_at (HK.out _ _ hgr).z
  obtain ⟨g1, g2⟩ := cell_r (v := .slice vA vn vc) (HK.out _ _ hgr)
  have H4 := Lib.hid (HK.out _ _ hgr)
  have HV := Lib.hid hv
  have HU := Lib.hid hu
  have HGR := Lib.hid (show ∃ n, (w.drewN n).grownBy w2 none from ⟨_, hgr⟩)
  have HVO := Lib.hid hov
  have HUO := Lib.hid hou
  have HVU := Lib.hid hvu
  clear a1 hv hu hgr hov hou hvu c1 d1 x1 y1
  refine wpAnyR_takeY (i := 19) (v := .tuple #[.slice vA vn vc, .slice uA un uc]) rfl (by kernel_rfl) (by kernel_rfl) (by kernel_rfl) (fun _ _ _ h => h) (Or.inl ⟨by kernel_rfl, ?_⟩) ?_
  · intro W _; go_simp
  try simp only [Act.put]
  refine wpAnyR_takeY (i := 20) (v := .slice vA vn vc) rfl (by kernel_rfl) (by kernel_rfl) (by kernel_rfl) (fun _ _ _ h => h) (Or.inl ⟨by kernel_rfl, ?_⟩) ?_
  · intro W _; go_simp
  try simp only [Act.put]
  refine wpAnyR_takeY (i := 21) (v := .slice uA un uc) rfl (by kernel_rfl) (by kernel_rfl) (by kernel_rfl) (fun _ _ _ h => h) (Or.inl ⟨by kernel_rfl, ?_⟩) ?_
  · intro W _; go_simp
  try simp only [Act.put]
  refine wpAnyR_takeY (i := 22) (v := .pointer (some ⟨gz, 0, none⟩)) rfl (by kernel_rfl) (by kernel_rfl) (by kernel_rfl) (fun _ _ _ h => h) (Or.inl ⟨by kernel_rfl, ?_⟩) ?_
  · intro W _; go_simp
  try simp only [Act.put]
  refine wpAnyR_takeY (i := 23) (v := .pointer (some ⟨gz, 1, none⟩)) rfl (by kernel_rfl) (by kernel_rfl) (by kernel_rfl) (fun _ _ _ h => h) (Or.inl ⟨by kernel_rfl, ?_⟩) ?_
  · intro W _; go_simp
  try simp only [Act.put]
  refine wpAnyR_one (i := 24) (by kernel_rfl) rfl (fun K hK => ?_)
  go_simp
  refine hK.out _ _ (.inl rfl) ?_
  clear hK K
  try simp only [Act.put]
  refine wpAnyR_takeY (i := 25) (v := .pointer (some ⟨gr, 0, none⟩)) rfl (by kernel_rfl) (by kernel_rfl) (by kernel_rfl) (fun _ _ _ h => h) (Or.inl ⟨by kernel_rfl, ?_⟩) ?_
  · intro W _; go_simp
  try simp only [Act.put]
  refine wpAnyR_takeY (i := 26) (v := .pointer (some ⟨gr, 1, none⟩)) rfl (by kernel_rfl) (by kernel_rfl) (by kernel_rfl) (fun _ _ _ h => h) (Or.inl ⟨by kernel_rfl, ?_⟩) ?_
  · intro W _; go_simp
  try simp only [Act.put]
  refine wpAnyR_one (i := 27) (by kernel_rfl) rfl (fun K hK => ?_)
  go_simp
  refine hK.out _ _ (.inl rfl) ?_
  clear hK K
  try simp only [Act.put]
  refine wpAnyR_done (by kernel_rfl) ?_ _
  obtain ⟨⟨m1, m2, m3, m4⟩, m5, m6, m7⟩ := qw_cells (v := .slice vA vn vc) (u := .slice uA un uc) H4.out
  have HM7 := Lib.hid m7
  change Exit.then _ _ _ _ (qw gz gr (.slice vA vn vc) (.slice uA un uc) w2)
  obtain ⟨w3, hw3⟩ : ∃ w3, w3 = qw gz gr (.slice vA vn vc) (.slice uA un uc) w2 := ⟨_, rfl⟩
  have HW := Lib.hid (show ∃ n, w3.drewN 1 = (qw gz gr (.slice vA vn vc) (.slice uA un uc) w2).drewN n from ⟨1, by rw [hw3]⟩)
  have HW0 := Lib.hid (show ∃ n, w3 = (qw gz gr (.slice vA vn vc) (.slice uA un uc) w2).drewN n from ⟨0, hw3⟩)
  obtain ⟨m8, m9⟩ := HM7.out 1
  have m10 : ((qw gz gr (.slice vA vn vc) (.slice uA un uc) w2).setCell ⟨gz, 0, none⟩ (.bool false)).cell? ⟨gr, 0, none⟩ = some (.bool br) := (HM7.out 0).1
  have m11 : ((qw gz gr (.slice vA vn vc) (.slice uA un uc) w2).setCell ⟨gz, 0, none⟩ (.bool false)).frozen? ⟨gr, 0, none⟩ = false := (HM7.out 0).2
  rw [← hw3] at m1 m2 m3 m4 m5 m6 m8 m9 m10 m11 ⊢
  clear m7 f1 fz g1 g2 HK H4 HM7 hw3
  cases hq : decide ((0 : Int) < (vn : Int)) with
  | true =>
    have hn3 := of_decide_eq_true hq
    have hn4 : 0 < vn := by omega
    clear hvn
    cases hq2 : decide ((0 : Int) < (un : Int)) with
    | true =>
      have hk3 := of_decide_eq_true hq2
      have hk4 : 0 < un := by omega
      clear hun
      go_wp2_with fail
      refine wp_region_R (S := fun W => W.cell? ⟨gz, 1, none⟩ = some (.slice vA vn vc) ∧ W.cell? ⟨gr, 1, none⟩ = some (.slice uA un uc) ∧ W.cell? ⟨gx, 0, none⟩ = some (.bool false) ∧ W.cell? ⟨gy, 0, none⟩ = some (.bool false)) (late := [33, 36]) (by kernel_rfl) ?_
      refine wpAnyR_takeY (i := 0) (v := .pointer (some ⟨gz, 0, none⟩)) rfl (by kernel_rfl) (by kernel_rfl) (by kernel_rfl) (fun _ _ _ h => h) (Or.inl ⟨by kernel_rfl, ?_⟩) ?_
      · intro W _; go_simp
      try simp only [Act.put]
      refine wpAnyR_takeY (i := 1) (v := .pointer (some ⟨gr, 0, none⟩)) rfl (by kernel_rfl) (by kernel_rfl) (by kernel_rfl) (fun _ _ _ h => h) (Or.inl ⟨by kernel_rfl, ?_⟩) ?_
      · intro W _; go_simp
      try simp only [Act.put]
      refine wpAnyR_takeY (i := 2) (v := .pointer (some ⟨gz, 0, none⟩)) rfl (by kernel_rfl) (by kernel_rfl) (by kernel_rfl) (fun _ _ _ h => h) (Or.inl ⟨by kernel_rfl, ?_⟩) ?_
      · intro W _; go_simp
      try simp only [Act.put]
      refine wpAnyR_takeY (i := 3) (v := .pointer (some ⟨gz, 0, none⟩)) rfl (by kernel_rfl) (by kernel_rfl) (by kernel_rfl) (fun _ _ _ h => h) (Or.inl ⟨by kernel_rfl, ?_⟩) ?_
      · intro W _; go_simp
      try simp only [Act.put]
      refine wpAnyR_takeY (i := 4) (v := .pointer (some ⟨gz, 1, none⟩)) rfl (by kernel_rfl) (by kernel_rfl) (by kernel_rfl) (fun _ _ _ h => h) (Or.inl ⟨by kernel_rfl, ?_⟩) ?_
      · intro W _; go_simp
      try simp only [Act.put]
      refine wpAnyR_take (i := 5) (v := .slice vA vn vc) rfl (by kernel_rfl) (by kernel_rfl) (by kernel_rfl) (by kernel_rfl) (by kernel_rfl) (fun _ _ _ h => h) (Or.inl ⟨by kernel_rfl, ?_⟩) ⟨m1, m2, m3, m4⟩ ?_
      · intro W hSw; obtain ⟨s1, s2, s3, s4⟩ := hSw; go_simp
      try simp only [Act.put]
      refine wpAnyR_takeY (i := 6) (v := .int .i64 vn) rfl (by kernel_rfl) (by kernel_rfl) (by kernel_rfl) (fun _ _ _ h => h) (Or.inl ⟨by kernel_rfl, ?_⟩) ?_
      · intro W _; go_simp
      try simp only [Act.put]
      refine wpAnyR_takeY (i := 7) (v := .bool true) rfl (by kernel_rfl) (by kernel_rfl) (by kernel_rfl) (fun _ _ _ h => h) (Or.inl ⟨by kernel_rfl, ?_⟩) ?_
      · intro W _; go_simp
      try simp only [Act.put]
      refine wpAnyR_takeY (i := 8) (v := .bool true) rfl (by kernel_rfl) (by kernel_rfl) (by kernel_rfl) (fun _ _ _ h => h) (Or.inl ⟨by kernel_rfl, ?_⟩) ?_
      · intro W _; go_simp
      try simp only [Act.put]
      refine wpAnyR_takeY (i := 9) (v := .pointer (some ⟨gx, 0, none⟩)) rfl (by kernel_rfl) (by kernel_rfl) (by kernel_rfl) (fun _ _ _ h => h) (Or.inl ⟨by kernel_rfl, ?_⟩) ?_
      · intro W _; go_simp
      try simp only [Act.put]
      refine wpAnyR_takeY (i := 10) (v := .pointer (some ⟨gx, 0, none⟩)) rfl (by kernel_rfl) (by kernel_rfl) (by kernel_rfl) (fun _ _ _ h => h) (Or.inl ⟨by kernel_rfl, ?_⟩) ?_
      · intro W _; go_simp
      try simp only [Act.put]
      refine wpAnyR_takeY (i := 11) (v := .pointer (some ⟨gx, 0, none⟩)) rfl (by kernel_rfl) (by kernel_rfl) (by kernel_rfl) (fun _ _ _ h => h) (Or.inl ⟨by kernel_rfl, ?_⟩) ?_
      · intro W _; go_simp
      try simp only [Act.put]
      refine wpAnyR_take (i := 12) (v := .bool false) rfl (by kernel_rfl) (by kernel_rfl) (by kernel_rfl) (by kernel_rfl) (by kernel_rfl) (fun _ _ _ h => h) (Or.inl ⟨by kernel_rfl, ?_⟩) ⟨m1, m2, m3, m4⟩ ?_
      · intro W hSw; obtain ⟨s1, s2, s3, s4⟩ := hSw; go_simp
      try simp only [Act.put]
      refine wpAnyR_takeY (i := 13) (v := .pointer (some ⟨gy, 0, none⟩)) rfl (by kernel_rfl) (by kernel_rfl) (by kernel_rfl) (fun _ _ _ h => h) (Or.inl ⟨by kernel_rfl, ?_⟩) ?_
      · intro W _; go_simp
      try simp only [Act.put]
      refine wpAnyR_takeY (i := 14) (v := .pointer (some ⟨gy, 0, none⟩)) rfl (by kernel_rfl) (by kernel_rfl) (by kernel_rfl) (fun _ _ _ h => h) (Or.inl ⟨by kernel_rfl, ?_⟩) ?_
      · intro W _; go_simp
      try simp only [Act.put]
      refine wpAnyR_takeY (i := 15) (v := .pointer (some ⟨gy, 0, none⟩)) rfl (by kernel_rfl) (by kernel_rfl) (by kernel_rfl) (fun _ _ _ h => h) (Or.inl ⟨by kernel_rfl, ?_⟩) ?_
      · intro W _; go_simp
      try simp only [Act.put]
      refine wpAnyR_take (i := 16) (v := .bool false) rfl (by kernel_rfl) (by kernel_rfl) (by kernel_rfl) (by kernel_rfl) (by kernel_rfl) (fun _ _ _ h => h) (Or.inl ⟨by kernel_rfl, ?_⟩) ⟨m1, m2, m3, m4⟩ ?_
      · intro W hSw; obtain ⟨s1, s2, s3, s4⟩ := hSw; go_simp
      try simp only [Act.put]
      refine wpAnyR_takeY (i := 17) (v := .bool false) rfl (by kernel_rfl) (by kernel_rfl) (by kernel_rfl) (fun _ _ _ h => h) (Or.inl ⟨by kernel_rfl, ?_⟩) ?_
      · intro W _; go_simp
      try simp only [Act.put]
      refine wpAnyR_takeY (i := 18) (v := .bool false) rfl (by kernel_rfl) (by kernel_rfl) (by kernel_rfl) (fun _ _ _ h => h) (Or.inl ⟨by kernel_rfl, ?_⟩) ?_
      · intro W _; go_simp
      try simp only [Act.put]
      refine wpAnyR_takeY (i := 19) (v := .pointer (some ⟨gr, 0, none⟩)) rfl (by kernel_rfl) (by kernel_rfl) (by kernel_rfl) (fun _ _ _ h => h) (Or.inl ⟨by kernel_rfl, ?_⟩) ?_
      · intro W _; go_simp
      try simp only [Act.put]
      refine wpAnyR_takeY (i := 20) (v := .pointer (some ⟨gr, 0, none⟩)) rfl (by kernel_rfl) (by kernel_rfl) (by kernel_rfl) (fun _ _ _ h => h) (Or.inl ⟨by kernel_rfl, ?_⟩) ?_
      · intro W _; go_simp
      try simp only [Act.put]
      refine wpAnyR_takeY (i := 21) (v := .pointer (some ⟨gr, 1, none⟩)) rfl (by kernel_rfl) (by kernel_rfl) (by kernel_rfl) (fun _ _ _ h => h) (Or.inl ⟨by kernel_rfl, ?_⟩) ?_
      · intro W _; go_simp
      try simp only [Act.put]
      refine wpAnyR_take (i := 22) (v := .slice uA un uc) rfl (by kernel_rfl) (by kernel_rfl) (by kernel_rfl) (by kernel_rfl) (by kernel_rfl) (fun _ _ _ h => h) (Or.inl ⟨by kernel_rfl, ?_⟩) ⟨m1, m2, m3, m4⟩ ?_
      · intro W hSw; obtain ⟨s1, s2, s3, s4⟩ := hSw; go_simp
      try simp only [Act.put]
      refine wpAnyR_takeY (i := 23) (v := .int .i64 un) rfl (by kernel_rfl) (by kernel_rfl) (by kernel_rfl) (fun _ _ _ h => h) (Or.inl ⟨by kernel_rfl, ?_⟩) ?_
      · intro W _; go_simp
      try simp only [Act.put]
      refine wpAnyR_takeY (i := 24) (v := .bool true) rfl (by kernel_rfl) (by kernel_rfl) (by kernel_rfl) (fun _ _ _ h => h) (Or.inl ⟨by kernel_rfl, ?_⟩) ?_
      · intro W _; go_simp
      try simp only [Act.put]
      refine wpAnyR_takeY (i := 25) (v := .bool true) rfl (by kernel_rfl) (by kernel_rfl) (by kernel_rfl) (fun _ _ _ h => h) (Or.inl ⟨by kernel_rfl, ?_⟩) ?_
      · intro W _; go_simp
      try simp only [Act.put]
      refine wpAnyR_takeY (i := 26) (v := .pointer (some ⟨gx, 0, none⟩)) rfl (by kernel_rfl) (by kernel_rfl) (by kernel_rfl) (fun _ _ _ h => h) (Or.inl ⟨by kernel_rfl, ?_⟩) ?_
      · intro W _; go_simp
      try simp only [Act.put]
      refine wpAnyR_takeY (i := 27) (v := .pointer (some ⟨gx, 0, none⟩)) rfl (by kernel_rfl) (by kernel_rfl) (by kernel_rfl) (fun _ _ _ h => h) (Or.inl ⟨by kernel_rfl, ?_⟩) ?_
      · intro W _; go_simp
      try simp only [Act.put]
      refine wpAnyR_takeY (i := 28) (v := .pointer (some ⟨gx, 0, none⟩)) rfl (by kernel_rfl) (by kernel_rfl) (by kernel_rfl) (fun _ _ _ h => h) (Or.inl ⟨by kernel_rfl, ?_⟩) ?_
      · intro W _; go_simp
      try simp only [Act.put]
      refine wpAnyR_take (i := 29) (v := .bool false) rfl (by kernel_rfl) (by kernel_rfl) (by kernel_rfl) (by kernel_rfl) (by kernel_rfl) (fun _ _ _ h => h) (Or.inl ⟨by kernel_rfl, ?_⟩) ⟨m1, m2, m3, m4⟩ ?_
      · intro W hSw; obtain ⟨s1, s2, s3, s4⟩ := hSw; go_simp
      try simp only [Act.put]
      refine wpAnyR_takeY (i := 30) (v := .bool false) rfl (by kernel_rfl) (by kernel_rfl) (by kernel_rfl) (fun _ _ _ h => h) (Or.inl ⟨by kernel_rfl, ?_⟩) ?_
      · intro W _; go_simp
      try simp only [Act.put]
      refine wpAnyR_takeY (i := 31) (v := .pointer (some ⟨gz, 0, none⟩)) rfl (by kernel_rfl) (by kernel_rfl) (by kernel_rfl) (fun _ _ _ h => h) (Or.inl ⟨by kernel_rfl, ?_⟩) ?_
      · intro W _; go_simp
      try simp only [Act.put]
      refine wpAnyR_takeY (i := 32) (v := .pointer (some ⟨gz, 0, none⟩)) rfl (by kernel_rfl) (by kernel_rfl) (by kernel_rfl) (fun _ _ _ h => h) (Or.inl ⟨by kernel_rfl, ?_⟩) ?_
      · intro W _; go_simp
      try simp only [Act.put]
      refine wpAnyR_one (i := 33) (by kernel_rfl) rfl (fun K hK => ?_)
      go_simp
      refine hK.out _ _ (.inl rfl) ?_
      clear hK K
      try simp only [Act.put]
      refine wpAnyR_takeY (i := 34) (v := .pointer (some ⟨gr, 0, none⟩)) rfl (by kernel_rfl) (by kernel_rfl) (by kernel_rfl) (fun _ _ _ h => h) (Or.inl ⟨by kernel_rfl, ?_⟩) ?_
      · intro W _; go_simp
      try simp only [Act.put]
      refine wpAnyR_takeY (i := 35) (v := .pointer (some ⟨gr, 0, none⟩)) rfl (by kernel_rfl) (by kernel_rfl) (by kernel_rfl) (fun _ _ _ h => h) (Or.inl ⟨by kernel_rfl, ?_⟩) ?_
      · intro W _; go_simp
      try simp only [Act.put]
      refine wpAnyR_one (i := 36) (by kernel_rfl) rfl (fun K hK => ?_)
      go_simp
      refine hK.out _ _ (.inl rfl) ?_
      clear hK K
      try simp only [Act.put]
      refine wpAnyR_done (by kernel_rfl) ?_ _
      go_wp2
      go_ret2
      first | exact (QPost.fin HX.out HV.out HU.out HGR.out HVO.out HUO.out HVU.out HW0.out).drew 1 | exact QPost.fin HX.out HV.out HU.out HGR.out HVO.out HUO.out HVU.out HW0.out | exact QPost.fin HX.out HV.out HU.out HGR.out HVO.out HUO.out HVU.out HW.out
    | false =>
      have hk3 : ¬ (0 : Int) < (un : Int) := of_decide_eq_false hq2
      have hk4 : ¬ 0 < un := by omega
      clear hun
      go_wp2_with fail
      refine wp_region_R (S := fun W => W.cell? ⟨gz, 1, none⟩ = some (.slice vA vn vc) ∧ W.cell? ⟨gr, 1, none⟩ = some (.slice uA un uc) ∧ W.cell? ⟨gx, 0, none⟩ = some (.bool false) ∧ W.cell? ⟨gy, 0, none⟩ = some (.bool false)) (late := [33, 36]) (by kernel_rfl) ?_
      refine wpAnyR_takeY (i := 0) (v := .pointer (some ⟨gz, 0, none⟩)) rfl (by kernel_rfl) (by kernel_rfl) (by kernel_rfl) (fun _ _ _ h => h) (Or.inl ⟨by kernel_rfl, ?_⟩) ?_
      · intro W _; go_simp
      try simp only [Act.put]
      refine wpAnyR_takeY (i := 1) (v := .pointer (some ⟨gr, 0, none⟩)) rfl (by kernel_rfl) (by kernel_rfl) (by kernel_rfl) (fun _ _ _ h => h) (Or.inl ⟨by kernel_rfl, ?_⟩) ?_
      · intro W _; go_simp
      try simp only [Act.put]
      refine wpAnyR_takeY (i := 2) (v := .pointer (some ⟨gz, 0, none⟩)) rfl (by kernel_rfl) (by kernel_rfl) (by kernel_rfl) (fun _ _ _ h => h) (Or.inl ⟨by kernel_rfl, ?_⟩) ?_
      · intro W _; go_simp
      try simp only [Act.put]
      refine wpAnyR_takeY (i := 3) (v := .pointer (some ⟨gz, 0, none⟩)) rfl (by kernel_rfl) (by kernel_rfl) (by kernel_rfl) (fun _ _ _ h => h) (Or.inl ⟨by kernel_rfl, ?_⟩) ?_
      · intro W _; go_simp
      try simp only [Act.put]
      refine wpAnyR_takeY (i := 4) (v := .pointer (some ⟨gz, 1, none⟩)) rfl (by kernel_rfl) (by kernel_rfl) (by kernel_rfl) (fun _ _ _ h => h) (Or.inl ⟨by kernel_rfl, ?_⟩) ?_
      · intro W _; go_simp
      try simp only [Act.put]
      refine wpAnyR_take (i := 5) (v := .slice vA vn vc) rfl (by kernel_rfl) (by kernel_rfl) (by kernel_rfl) (by kernel_rfl) (by kernel_rfl) (fun _ _ _ h => h) (Or.inl ⟨by kernel_rfl, ?_⟩) ⟨m1, m2, m3, m4⟩ ?_
      · intro W hSw; obtain ⟨s1, s2, s3, s4⟩ := hSw; go_simp
      try simp only [Act.put]
      refine wpAnyR_takeY (i := 6) (v := .int .i64 vn) rfl (by kernel_rfl) (by kernel_rfl) (by kernel_rfl) (fun _ _ _ h => h) (Or.inl ⟨by kernel_rfl, ?_⟩) ?_
      · intro W _; go_simp
      try simp only [Act.put]
      refine wpAnyR_takeY (i := 7) (v := .bool true) rfl (by kernel_rfl) (by kernel_rfl) (by kernel_rfl) (fun _ _ _ h => h) (Or.inl ⟨by kernel_rfl, ?_⟩) ?_
      · intro W _; go_simp
      try simp only [Act.put]
      refine wpAnyR_takeY (i := 8) (v := .bool true) rfl (by kernel_rfl) (by kernel_rfl) (by kernel_rfl) (fun _ _ _ h => h) (Or.inl ⟨by kernel_rfl, ?_⟩) ?_
      · intro W _; go_simp
      try simp only [Act.put]
      refine wpAnyR_takeY (i := 9) (v := .pointer (some ⟨gx, 0, none⟩)) rfl (by kernel_rfl) (by kernel_rfl) (by kernel_rfl) (fun _ _ _ h => h) (Or.inl ⟨by kernel_rfl, ?_⟩) ?_
      · intro W _; go_simp
      try simp only [Act.put]
      refine wpAnyR_takeY (i := 10) (v := .pointer (some ⟨gx, 0, none⟩)) rfl (by kernel_rfl) (by kernel_rfl) (by kernel_rfl) (fun _ _ _ h => h) (Or.inl ⟨by kernel_rfl, ?_⟩) ?_
      · intro W _; go_simp
      try simp only [Act.put]
      refine wpAnyR_takeY (i := 11) (v := .pointer (some ⟨gx, 0, none⟩)) rfl (by kernel_rfl) (by kernel_rfl) (by kernel_rfl) (fun _ _ _ h => h) (Or.inl ⟨by kernel_rfl, ?_⟩) ?_
      · intro W _; go_simp
      try simp only [Act.put]
      refine wpAnyR_take (i := 12) (v := .bool false) rfl (by kernel_rfl) (by kernel_rfl) (by kernel_rfl) (by kernel_rfl) (by kernel_rfl) (fun _ _ _ h => h) (Or.inl ⟨by kernel_rfl, ?_⟩) ⟨m1, m2, m3, m4⟩ ?_
      · intro W hSw; obtain ⟨s1, s2, s3, s4⟩ := hSw; go_simp
      try simp only [Act.put]
      refine wpAnyR_takeY (i := 13) (v := .pointer (some ⟨gy, 0, none⟩)) rfl (by kernel_rfl) (by kernel_rfl) (by kernel_rfl) (fun _ _ _ h => h) (Or.inl ⟨by kernel_rfl, ?_⟩) ?_
      · intro W _; go_simp
      try simp only [Act.put]
      refine wpAnyR_takeY (i := 14) (v := .pointer (some ⟨gy, 0, none⟩)) rfl (by kernel_rfl) (by kernel_rfl) (by kernel_rfl) (fun _ _ _ h => h) (Or.inl ⟨by kernel_rfl, ?_⟩) ?_
      · intro W _; go_simp
      try simp only [Act.put]
      refine wpAnyR_takeY (i := 15) (v := .pointer (some ⟨gy, 0, none⟩)) rfl (by kernel_rfl) (by kernel_rfl) (by kernel_rfl) (fun _ _ _ h => h) (Or.inl ⟨by kernel_rfl, ?_⟩) ?_
      · intro W _; go_simp
      try simp only [Act.put]
      refine wpAnyR_take (i := 16) (v := .bool false) rfl (by kernel_rfl) (by kernel_rfl) (by kernel_rfl) (by kernel_rfl) (by kernel_rfl) (fun _ _ _ h => h) (Or.inl ⟨by kernel_rfl, ?_⟩) ⟨m1, m2, m3, m4⟩ ?_
      · intro W hSw; obtain ⟨s1, s2, s3, s4⟩ := hSw; go_simp
      try simp only [Act.put]
      refine wpAnyR_takeY (i := 17) (v := .bool false) rfl (by kernel_rfl) (by kernel_rfl) (by kernel_rfl) (fun _ _ _ h => h) (Or.inl ⟨by kernel_rfl, ?_⟩) ?_
      · intro W _; go_simp
      try simp only [Act.put]
      refine wpAnyR_takeY (i := 18) (v := .bool false) rfl (by kernel_rfl) (by kernel_rfl) (by kernel_rfl) (fun _ _ _ h => h) (Or.inl ⟨by kernel_rfl, ?_⟩) ?_
      · intro W _; go_simp
      try simp only [Act.put]
      refine wpAnyR_takeY (i := 19) (v := .pointer (some ⟨gr, 0, none⟩)) rfl (by kernel_rfl) (by kernel_rfl) (by kernel_rfl) (fun _ _ _ h => h) (Or.inl ⟨by kernel_rfl, ?_⟩) ?_
      · intro W _; go_simp
      try simp only [Act.put]
      refine wpAnyR_takeY (i := 20) (v := .pointer (some ⟨gr, 0, none⟩)) rfl (by kernel_rfl) (by kernel_rfl) (by kernel_rfl) (fun _ _ _ h => h) (Or.inl ⟨by kernel_rfl, ?_⟩) ?_
      · intro W _; go_simp
      try simp only [Act.put]
      refine wpAnyR_takeY (i := 21) (v := .pointer (some ⟨gr, 1, none⟩)) rfl (by kernel_rfl) (by kernel_rfl) (by kernel_rfl) (fun _ _ _ h => h) (Or.inl ⟨by kernel_rfl, ?_⟩) ?_
      · intro W _; go_simp
      try simp only [Act.put]
      refine wpAnyR_take (i := 22) (v := .slice uA un uc) rfl (by kernel_rfl) (by kernel_rfl) (by kernel_rfl) (by kernel_rfl) (by kernel_rfl) (fun _ _ _ h => h) (Or.inl ⟨by kernel_rfl, ?_⟩) ⟨m1, m2, m3, m4⟩ ?_
      · intro W hSw; obtain ⟨s1, s2, s3, s4⟩ := hSw; go_simp
      try simp only [Act.put]
      refine wpAnyR_takeY (i := 23) (v := .int .i64 un) rfl (by kernel_rfl) (by kernel_rfl) (by kernel_rfl) (fun _ _ _ h => h) (Or.inl ⟨by kernel_rfl, ?_⟩) ?_
      · intro W _; go_simp
      try simp only [Act.put]
      refine wpAnyR_takeY (i := 24) (v := .bool false) rfl (by kernel_rfl) (by kernel_rfl) (by kernel_rfl) (fun _ _ _ h => h) (Or.inl ⟨by kernel_rfl, ?_⟩) ?_
      · intro W _; go_simp
      try simp only [Act.put]
      refine wpAnyR_takeY (i := 25) (v := .bool false) rfl (by kernel_rfl) (by kernel_rfl) (by kernel_rfl) (fun _ _ _ h => h) (Or.inl ⟨by kernel_rfl, ?_⟩) ?_
      · intro W _; go_simp
      try simp only [Act.put]
      refine wpAnyR_takeY (i := 26) (v := undef) rfl (by kernel_rfl) (by kernel_rfl) (by kernel_rfl) (fun _ _ _ h => h) (Or.inr ⟨by kernel_rfl, rfl⟩) ?_
      try simp only [Act.put]
      refine wpAnyR_takeY (i := 27) (v := undef) rfl (by kernel_rfl) (by kernel_rfl) (by kernel_rfl) (fun _ _ _ h => h) (Or.inr ⟨by kernel_rfl, rfl⟩) ?_
      try simp only [Act.put]
      refine wpAnyR_takeY (i := 28) (v := undef) rfl (by kernel_rfl) (by kernel_rfl) (by kernel_rfl) (fun _ _ _ h => h) (Or.inr ⟨by kernel_rfl, rfl⟩) ?_
      try simp only [Act.put]
      refine wpAnyR_takeY (i := 29) (v := undef) rfl (by kernel_rfl) (by kernel_rfl) (by kernel_rfl) (fun _ _ _ h => h) (Or.inr ⟨by kernel_rfl, rfl⟩) ?_
      try simp only [Act.put]
      refine wpAnyR_takeY (i := 30) (v := .bool false) rfl (by kernel_rfl) (by kernel_rfl) (by kernel_rfl) (fun _ _ _ h => h) (Or.inl ⟨by kernel_rfl, ?_⟩) ?_
      · intro W _; go_simp
      try simp only [Act.put]
      refine wpAnyR_takeY (i := 31) (v := .pointer (some ⟨gz, 0, none⟩)) rfl (by kernel_rfl) (by kernel_rfl) (by kernel_rfl) (fun _ _ _ h => h) (Or.inl ⟨by kernel_rfl, ?_⟩) ?_
      · intro W _; go_simp
      try simp only [Act.put]
      refine wpAnyR_takeY (i := 32) (v := .pointer (some ⟨gz, 0, none⟩)) rfl (by kernel_rfl) (by kernel_rfl) (by kernel_rfl) (fun _ _ _ h => h) (Or.inl ⟨by kernel_rfl, ?_⟩) ?_
      · intro W _; go_simp
      try simp only [Act.put]
      refine wpAnyR_one (i := 33) (by kernel_rfl) rfl (fun K hK => ?_)
      go_simp
      refine hK.out _ _ (.inl rfl) ?_
      clear hK K
      try simp only [Act.put]
      refine wpAnyR_takeY (i := 34) (v := .pointer (some ⟨gr, 0, none⟩)) rfl (by kernel_rfl) (by kernel_rfl) (by kernel_rfl) (fun _ _ _ h => h) (Or.inl ⟨by kernel_rfl, ?_⟩) ?_
      · intro W _; go_simp
      try simp only [Act.put]
      refine wpAnyR_takeY (i := 35) (v := .pointer (some ⟨gr, 0, none⟩)) rfl (by kernel_rfl) (by kernel_rfl) (by kernel_rfl) (fun _ _ _ h => h) (Or.inl ⟨by kernel_rfl, ?_⟩) ?_
      · intro W _; go_simp
      try simp only [Act.put]
      refine wpAnyR_one (i := 36) (by kernel_rfl) rfl (fun K hK => ?_)
      go_simp
      refine hK.out _ _ (.inl rfl) ?_
      clear hK K
      try simp only [Act.put]
      refine wpAnyR_done (by kernel_rfl) ?_ _
      go_wp2
      go_ret2
      first | exact (QPost.fin HX.out HV.out HU.out HGR.out HVO.out HUO.out HVU.out HW0.out).drew 1 | exact QPost.fin HX.out HV.out HU.out HGR.out HVO.out HUO.out HVU.out HW0.out | exact QPost.fin HX.out HV.out HU.out HGR.out HVO.out HUO.out HVU.out HW.out
  | false =>
    have hn3 : ¬ (0 : Int) < (vn : Int) := of_decide_eq_false hq
    have hn4 : ¬ 0 < vn := by omega
    clear hvn
    cases hq2 : decide ((0 : Int) < (un : Int)) with
    | true =>
      have hk3 := of_decide_eq_true hq2
      have hk4 : 0 < un := by omega
      clear hun
      go_wp2_with fail
      refine wp_region_R (S := fun W => W.cell? ⟨gz, 1, none⟩ = some (.slice vA vn vc) ∧ W.cell? ⟨gr, 1, none⟩ = some (.slice uA un uc) ∧ W.cell? ⟨gx, 0, none⟩ = some (.bool false) ∧ W.cell? ⟨gy, 0, none⟩ = some (.bool false)) (late := [33, 36]) (by kernel_rfl) ?_
      refine wpAnyR_takeY (i := 0) (v := .pointer (some ⟨gz, 0, none⟩)) rfl (by kernel_rfl) (by kernel_rfl) (by kernel_rfl) (fun _ _ _ h => h) (Or.inl ⟨by kernel_rfl, ?_⟩) ?_
      · intro W _; go_simp
      try simp only [Act.put]
      refine wpAnyR_takeY (i := 1) (v := .pointer (some ⟨gr, 0, none⟩)) rfl (by kernel_rfl) (by kernel_rfl) (by kernel_rfl) (fun _ _ _ h => h) (Or.inl ⟨by kernel_rfl, ?_⟩) ?_
      · intro W _; go_simp
      try simp only [Act.put]
      refine wpAnyR_takeY (i := 2) (v := .pointer (some ⟨gz, 0, none⟩)) rfl (by kernel_rfl) (by kernel_rfl) (by kernel_rfl) (fun _ _ _ h => h) (Or.inl ⟨by kernel_rfl, ?_⟩) ?_
      · intro W _; go_simp
      try simp only [Act.put]
      refine wpAnyR_takeY (i := 3) (v := .pointer (some ⟨gz, 0, none⟩)) rfl (by kernel_rfl) (by kernel_rfl) (by kernel_rfl) (fun _ _ _ h => h) (Or.inl ⟨by kernel_rfl, ?_⟩) ?_
      · intro W _; go_simp
      try simp only [Act.put]
      refine wpAnyR_takeY (i := 4) (v := .pointer (some ⟨gz, 1, none⟩)) rfl (by kernel_rfl) (by kernel_rfl) (by kernel_rfl) (fun _ _ _ h => h) (Or.inl ⟨by kernel_rfl, ?_⟩) ?_
      · intro W _; go_simp
      try simp only [Act.put]
      refine wpAnyR_take (i := 5) (v := .slice vA vn vc) rfl (by kernel_rfl) (by kernel_rfl) (by kernel_rfl) (by kernel_rfl) (by kernel_rfl) (fun _ _ _ h => h) (Or.inl ⟨by kernel_rfl, ?_⟩) ⟨m1, m2, m3, m4⟩ ?_
      · intro W hSw; obtain ⟨s1, s2, s3, s4⟩ := hSw; go_simp
      try simp only [Act.put]
      refine wpAnyR_takeY (i := 6) (v := .int .i64 vn) rfl (by kernel_rfl) (by kernel_rfl) (by kernel_rfl) (fun _ _ _ h => h) (Or.inl ⟨by kernel_rfl, ?_⟩) ?_
      · intro W _; go_simp
      try simp only [Act.put]
      refine wpAnyR_takeY (i := 7) (v := .bool false) rfl (by kernel_rfl) (by kernel_rfl) (by kernel_rfl) (fun _ _ _ h => h) (Or.inl ⟨by kernel_rfl, ?_⟩) ?_
      · intro W _; go_simp
      try simp only [Act.put]
      refine wpAnyR_takeY (i := 8) (v := .bool false) rfl (by kernel_rfl) (by kernel_rfl) (by kernel_rfl) (fun _ _ _ h => h) (Or.inl ⟨by kernel_rfl, ?_⟩) ?_
      · intro W _; go_simp
      try simp only [Act.put]
      refine wpAnyR_takeY (i := 9) (v := undef) rfl (by kernel_rfl) (by kernel_rfl) (by kernel_rfl) (fun _ _ _ h => h) (Or.inr ⟨by kernel_rfl, rfl⟩) ?_
      try simp only [Act.put]
      refine wpAnyR_takeY (i := 10) (v := undef) rfl (by kernel_rfl) (by kernel_rfl) (by kernel_rfl) (fun _ _ _ h => h) (Or.inr ⟨by kernel_rfl, rfl⟩) ?_
      try simp only [Act.put]
      refine wpAnyR_takeY (i := 11) (v := undef) rfl (by kernel_rfl) (by kernel_rfl) (by kernel_rfl) (fun _ _ _ h => h) (Or.inr ⟨by kernel_rfl, rfl⟩) ?_
      try simp only [Act.put]
      refine wpAnyR_takeY (i := 12) (v := undef) rfl (by kernel_rfl) (by kernel_rfl) (by kernel_rfl) (fun _ _ _ h => h) (Or.inr ⟨by kernel_rfl, rfl⟩) ?_
      try simp only [Act.put]
      refine wpAnyR_takeY (i := 13) (v := undef) rfl (by kernel_rfl) (by kernel_rfl) (by kernel_rfl) (fun _ _ _ h => h) (Or.inr ⟨by kernel_rfl, rfl⟩) ?_
      try simp only [Act.put]
      refine wpAnyR_takeY (i := 14) (v := undef) rfl (by kernel_rfl) (by kernel_rfl) (by kernel_rfl) (fun _ _ _ h => h) (Or.inr ⟨by kernel_rfl, rfl⟩) ?_
      try simp only [Act.put]
      refine wpAnyR_takeY (i := 15) (v := undef) rfl (by kernel_rfl) (by kernel_rfl) (by kernel_rfl) (fun _ _ _ h => h) (Or.inr ⟨by kernel_rfl, rfl⟩) ?_
      try simp only [Act.put]
      refine wpAnyR_takeY (i := 16) (v := undef) rfl (by kernel_rfl) (by kernel_rfl) (by kernel_rfl) (fun _ _ _ h => h) (Or.inr ⟨by kernel_rfl, rfl⟩) ?_
      try simp only [Act.put]
      refine wpAnyR_takeY (i := 17) (v := undef) rfl (by kernel_rfl) (by kernel_rfl) (by kernel_rfl) (fun _ _ _ h => h) (Or.inr ⟨by kernel_rfl, rfl⟩) ?_
      try simp only [Act.put]
      refine wpAnyR_takeY (i := 18) (v := .bool false) rfl (by kernel_rfl) (by kernel_rfl) (by kernel_rfl) (fun _ _ _ h => h) (Or.inl ⟨by kernel_rfl, ?_⟩) ?_
      · intro W _; go_simp
      try simp only [Act.put]
      refine wpAnyR_takeY (i := 19) (v := .pointer (some ⟨gr, 0, none⟩)) rfl (by kernel_rfl) (by kernel_rfl) (by kernel_rfl) (fun _ _ _ h => h) (Or.inl ⟨by kernel_rfl, ?_⟩) ?_
      · intro W _; go_simp
      try simp only [Act.put]
      refine wpAnyR_takeY (i := 20) (v := .pointer (some ⟨gr, 0, none⟩)) rfl (by kernel_rfl) (by kernel_rfl) (by kernel_rfl) (fun _ _ _ h => h) (Or.inl ⟨by kernel_rfl, ?_⟩) ?_
      · intro W _; go_simp
      try simp only [Act.put]
      refine wpAnyR_takeY (i := 21) (v := .pointer (some ⟨gr, 1, none⟩)) rfl (by kernel_rfl) (by kernel_rfl) (by kernel_rfl) (fun _ _ _ h => h) (Or.inl ⟨by kernel_rfl, ?_⟩) ?_
      · intro W _; go_simp
      try simp only [Act.put]
      refine wpAnyR_take (i := 22) (v := .slice uA un uc) rfl (by kernel_rfl) (by kernel_rfl) (by kernel_rfl) (by kernel_rfl) (by kernel_rfl) (fun _ _ _ h => h) (Or.inl ⟨by kernel_rfl, ?_⟩) ⟨m1, m2, m3, m4⟩ ?_
      · intro W hSw; obtain ⟨s1, s2, s3, s4⟩ := hSw; go_simp
      try simp only [Act.put]
      refine wpAnyR_takeY (i := 23) (v := .int .i64 un) rfl (by kernel_rfl) (by kernel_rfl) (by kernel_rfl) (fun _ _ _ h => h) (Or.inl ⟨by kernel_rfl, ?_⟩) ?_
      · intro W _; go_simp
      try simp only [Act.put]
      refine wpAnyR_takeY (i := 24) (v := .bool true) rfl (by kernel_rfl) (by kernel_rfl) (by kernel_rfl) (fun _ _ _ h => h) (Or.inl ⟨by kernel_rfl, ?_⟩) ?_
      · intro W _; go_simp
      try simp only [Act.put]
      refine wpAnyR_takeY (i := 25) (v := .bool true) rfl (by kernel_rfl) (by kernel_rfl) (by kernel_rfl) (fun _ _ _ h => h) (Or.inl ⟨by kernel_rfl, ?_⟩) ?_
      · intro W _; go_simp
      try simp only [Act.put]
      refine wpAnyR_takeY (i := 26) (v := .pointer (some ⟨gx, 0, none⟩)) rfl (by kernel_rfl) (by kernel_rfl) (by kernel_rfl) (fun _ _ _ h => h) (Or.inl ⟨by kernel_rfl, ?_⟩) ?_
      · intro W _; go_simp
      try simp only [Act.put]
      refine wpAnyR_takeY (i := 27) (v := .pointer (some ⟨gx, 0, none⟩)) rfl (by kernel_rfl) (by kernel_rfl) (by kernel_rfl) (fun _ _ _ h => h) (Or.inl ⟨by kernel_rfl, ?_⟩) ?_
      · intro W _; go_simp
      try simp only [Act.put]
      refine wpAnyR_takeY (i := 28) (v := .pointer (some ⟨gx, 0, none⟩)) rfl (by kernel_rfl) (by kernel_rfl) (by kernel_rfl) (fun _ _ _ h => h) (Or.inl ⟨by kernel_rfl, ?_⟩) ?_
      · intro W _; go_simp
      try simp only [Act.put]
      refine wpAnyR_take (i := 29) (v := .bool false) rfl (by kernel_rfl) (by kernel_rfl) (by kernel_rfl) (by kernel_rfl) (by kernel_rfl) (fun _ _ _ h => h) (Or.inl ⟨by kernel_rfl, ?_⟩) ⟨m1, m2, m3, m4⟩ ?_
      · intro W hSw; obtain ⟨s1, s2, s3, s4⟩ := hSw; go_simp
      try simp only [Act.put]
      refine wpAnyR_takeY (i := 30) (v := .bool false) rfl (by kernel_rfl) (by kernel_rfl) (by kernel_rfl) (fun _ _ _ h => h) (Or.inl ⟨by kernel_rfl, ?_⟩) ?_
      · intro W _; go_simp
      try simp only [Act.put]
      refine wpAnyR_takeY (i := 31) (v := .pointer (some ⟨gz, 0, none⟩)) rfl (by kernel_rfl) (by kernel_rfl) (by kernel_rfl) (fun _ _ _ h => h) (Or.inl ⟨by kernel_rfl, ?_⟩) ?_
      · intro W _; go_simp
      try simp only [Act.put]
      refine wpAnyR_takeY (i := 32) (v := .pointer (some ⟨gz, 0, none⟩)) rfl (by kernel_rfl) (by kernel_rfl) (by kernel_rfl) (fun _ _ _ h => h) (Or.inl ⟨by kernel_rfl, ?_⟩) ?_
      · intro W _; go_simp
      try simp only [Act.put]
      refine wpAnyR_one (i := 33) (by kernel_rfl) rfl (fun K hK => ?_)
      go_simp
      refine hK.out _ _ (.inl rfl) ?_
      clear hK K
      try simp only [Act.put]
      refine wpAnyR_takeY (i := 34) (v := .pointer (some ⟨gr, 0, none⟩)) rfl (by kernel_rfl) (by kernel_rfl) (by kernel_rfl) (fun _ _ _ h => h) (Or.inl ⟨by kernel_rfl, ?_⟩) ?_
      · intro W _; go_simp
      try simp only [Act.put]
      refine wpAnyR_takeY (i := 35) (v := .pointer (some ⟨gr, 0, none⟩)) rfl (by kernel_rfl) (by kernel_rfl) (by kernel_rfl) (fun _ _ _ h => h) (Or.inl ⟨by kernel_rfl, ?_⟩) ?_
      · intro W _; go_simp
      try simp only [Act.put]
      refine wpAnyR_one (i := 36) (by kernel_rfl) rfl (fun K hK => ?_)
      go_simp
      refine hK.out _ _ (.inl rfl) ?_
      clear hK K
      try simp only [Act.put]
      refine wpAnyR_done (by kernel_rfl) ?_ _
      go_wp2
      go_ret2
      first | exact (QPost.fin HX.out HV.out HU.out HGR.out HVO.out HUO.out HVU.out HW0.out).drew 1 | exact QPost.fin HX.out HV.out HU.out HGR.out HVO.out HUO.out HVU.out HW0.out | exact QPost.fin HX.out HV.out HU.out HGR.out HVO.out HUO.out HVU.out HW.out
    | false =>
      have hk3 : ¬ (0 : Int) < (un : Int) := of_decide_eq_false hq2
      have hk4 : ¬ 0 < un := by omega
      clear hun
      go_wp2_with fail
      refine wp_region_R (S := fun W => W.cell? ⟨gz, 1, none⟩ = some (.slice vA vn vc) ∧ W.cell? ⟨gr, 1, none⟩ = some (.slice uA un uc) ∧ W.cell? ⟨gx, 0, none⟩ = some (.bool false) ∧ W.cell? ⟨gy, 0, none⟩ = some (.bool false)) (late := [33, 36]) (by kernel_rfl) ?_
      refine wpAnyR_takeY (i := 0) (v := .pointer (some ⟨gz, 0, none⟩)) rfl (by kernel_rfl) (by kernel_rfl) (by kernel_rfl) (fun _ _ _ h => h) (Or.inl ⟨by kernel_rfl, ?_⟩) ?_
      · intro W _; go_simp
      try simp only [Act.put]
      refine wpAnyR_takeY (i := 1) (v := .pointer (some ⟨gr, 0, none⟩)) rfl (by kernel_rfl) (by kernel_rfl) (by kernel_rfl) (fun _ _ _ h => h) (Or.inl ⟨by kernel_rfl, ?_⟩) ?_
      · intro W _; go_simp
      try simp only [Act.put]
      refine wpAnyR_takeY (i := 2) (v := .pointer (some ⟨gz, 0, none⟩)) rfl (by kernel_rfl) (by kernel_rfl) (by kernel_rfl) (fun _ _ _ h => h) (Or.inl ⟨by kernel_rfl, ?_⟩) ?_
      · intro W _; go_simp
      try simp only [Act.put]
      refine wpAnyR_takeY (i := 3) (v := .pointer (some ⟨gz, 0, none⟩)) rfl (by kernel_rfl) (by kernel_rfl) (by kernel_rfl) (fun _ _ _ h => h) (Or.inl ⟨by kernel_rfl, ?_⟩) ?_
      · intro W _; go_simp
      try simp only [Act.put]
      refine wpAnyR_takeY (i := 4) (v := .pointer (some ⟨gz, 1, none⟩)) rfl (by kernel_rfl) (by kernel_rfl) (by kernel_rfl) (fun _ _ _ h => h) (Or.inl ⟨by kernel_rfl, ?_⟩) ?_
      · intro W _; go_simp
      try simp only [Act.put]
      refine wpAnyR_take (i := 5) (v := .slice vA vn vc) rfl (by kernel_rfl) (by kernel_rfl) (by kernel_rfl) (by kernel_rfl) (by kernel_rfl) (fun _ _ _ h => h) (Or.inl ⟨by kernel_rfl, ?_⟩) ⟨m1, m2, m3, m4⟩ ?_
      · intro W hSw; obtain ⟨s1, s2, s3, s4⟩ := hSw; go_simp
      try simp only [Act.put]
      refine wpAnyR_takeY (i := 6) (v := .int .i64 vn) rfl (by kernel_rfl) (by kernel_rfl) (by kernel_rfl) (fun _ _ _ h => h) (Or.inl ⟨by kernel_rfl, ?_⟩) ?_
      · intro W _; go_simp
      try simp only [Act.put]
      refine wpAnyR_takeY (i := 7) (v := .bool false) rfl (by kernel_rfl) (by kernel_rfl) (by kernel_rfl) (fun _ _ _ h => h) (Or.inl ⟨by kernel_rfl, ?_⟩) ?_
      · intro W _; go_simp
      try simp only [Act.put]
      refine wpAnyR_takeY (i := 8) (v := .bool false) rfl (by kernel_rfl) (by kernel_rfl) (by kernel_rfl) (fun _ _ _ h => h) (Or.inl ⟨by kernel_rfl, ?_⟩) ?_
      · intro W _; go_simp
      try simp only [Act.put]
      refine wpAnyR_takeY (i := 9) (v := undef) rfl (by kernel_rfl) (by kernel_rfl) (by kernel_rfl) (fun _ _ _ h => h) (Or.inr ⟨by kernel_rfl, rfl⟩) ?_
      try simp only [Act.put]
      refine wpAnyR_takeY (i := 10) (v := undef) rfl (by kernel_rfl) (by kernel_rfl) (by kernel_rfl) (fun _ _ _ h => h) (Or.inr ⟨by kernel_rfl, rfl⟩) ?_
      try simp only [Act.put]
      refine wpAnyR_takeY (i := 11) (v := undef) rfl (by kernel_rfl) (by kernel_rfl) (by kernel_rfl) (fun _ _ _ h => h) (Or.inr ⟨by kernel_rfl, rfl⟩) ?_
      try simp only [Act.put]
      refine wpAnyR_takeY (i := 12) (v := undef) rfl (by kernel_rfl) (by kernel_rfl) (by kernel_rfl) (fun _ _ _ h => h) (Or.inr ⟨by kernel_rfl, rfl⟩) ?_
      try simp only [Act.put]
      refine wpAnyR_takeY (i := 13) (v := undef) rfl (by kernel_rfl) (by kernel_rfl) (by kernel_rfl) (fun _ _ _ h => h) (Or.inr ⟨by kernel_rfl, rfl⟩) ?_
      try simp only [Act.put]
      refine wpAnyR_takeY (i := 14) (v := undef) rfl (by kernel_rfl) (by kernel_rfl) (by kernel_rfl) (fun _ _ _ h => h) (Or.inr ⟨by kernel_rfl, rfl⟩) ?_
      try simp only [Act.put]
      refine wpAnyR_takeY (i := 15) (v := undef) rfl (by kernel_rfl) (by kernel_rfl) (by kernel_rfl) (fun _ _ _ h => h) (Or.inr ⟨by kernel_rfl, rfl⟩) ?_
      try simp only [Act.put]
      refine wpAnyR_takeY (i := 16) (v := undef) rfl (by kernel_rfl) (by kernel_rfl) (by kernel_rfl) (fun _ _ _ h => h) (Or.inr ⟨by kernel_rfl, rfl⟩) ?_
      try simp only [Act.put]
      refine wpAnyR_takeY (i := 17) (v := undef) rfl (by kernel_rfl) (by kernel_rfl) (by kernel_rfl) (fun _ _ _ h => h) (Or.inr ⟨by kernel_rfl, rfl⟩) ?_
      try simp only [Act.put]
      refine wpAnyR_takeY (i := 18) (v := .bool false) rfl (by kernel_rfl) (by kernel_rfl) (by kernel_rfl) (fun _ _ _ h => h) (Or.inl ⟨by kernel_rfl, ?_⟩) ?_
      · intro W _; go_simp
      try simp only [Act.put]
      refine wpAnyR_takeY (i := 19) (v := .pointer (some ⟨gr, 0, none⟩)) rfl (by kernel_rfl) (by kernel_rfl) (by kernel_rfl) (fun _ _ _ h => h) (Or.inl ⟨by kernel_rfl, ?_⟩) ?_
      · intro W _; go_simp
      try simp only [Act.put]
      refine wpAnyR_takeY (i := 20) (v := .pointer (some ⟨gr, 0, none⟩)) rfl (by kernel_rfl) (by kernel_rfl) (by kernel_rfl) (fun _ _ _ h => h) (Or.inl ⟨by kernel_rfl, ?_⟩) ?_
      · intro W _; go_simp
      try simp only [Act.put]
      refine wpAnyR_takeY (i := 21) (v := .pointer (some ⟨gr, 1, none⟩)) rfl (by kernel_rfl) (by kernel_rfl) (by kernel_rfl) (fun _ _ _ h => h) (Or.inl ⟨by kernel_rfl, ?_⟩) ?_
      · intro W _; go_simp
      try simp only [Act.put]
      refine wpAnyR_take (i := 22) (v := .slice uA un uc) rfl (by kernel_rfl) (by kernel_rfl) (by kernel_rfl) (by kernel_rfl) (by kernel_rfl) (fun _ _ _ h => h) (Or.inl ⟨by kernel_rfl, ?_⟩) ⟨m1, m2, m3, m4⟩ ?_
      · intro W hSw; obtain ⟨s1, s2, s3, s4⟩ := hSw; go_simp
      try simp only [Act.put]
      refine wpAnyR_takeY (i := 23) (v := .int .i64 un) rfl (by kernel_rfl) (by kernel_rfl) (by kernel_rfl) (fun _ _ _ h => h) (Or.inl ⟨by kernel_rfl, ?_⟩) ?_
      · intro W _; go_simp
      try simp only [Act.put]
      refine wpAnyR_takeY (i := 24) (v := .bool false) rfl (by kernel_rfl) (by kernel_rfl) (by kernel_rfl) (fun _ _ _ h => h) (Or.inl ⟨by kernel_rfl, ?_⟩) ?_
      · intro W _; go_simp
      try simp only [Act.put]
      refine wpAnyR_takeY (i := 25) (v := .bool false) rfl (by kernel_rfl) (by kernel_rfl) (by kernel_rfl) (fun _ _ _ h => h) (Or.inl ⟨by kernel_rfl, ?_⟩) ?_
      · intro W _; go_simp
      try simp only [Act.put]
      refine wpAnyR_takeY (i := 26) (v := undef) rfl (by kernel_rfl) (by kernel_rfl) (by kernel_rfl) (fun _ _ _ h => h) (Or.inr ⟨by kernel_rfl, rfl⟩) ?_
      try simp only [Act.put]
      refine wpAnyR_takeY (i := 27) (v := undef) rfl (by kernel_rfl) (by kernel_rfl) (by kernel_rfl) (fun _ _ _ h => h) (Or.inr ⟨by kernel_rfl, rfl⟩) ?_
      try simp only [Act.put]
      refine wpAnyR_takeY (i := 28) (v := undef) rfl (by kernel_rfl) (by kernel_rfl) (by kernel_rfl) (fun _ _ _ h => h) (Or.inr ⟨by kernel_rfl, rfl⟩) ?_
      try simp only [Act.put]
      refine wpAnyR_takeY (i := 29) (v := undef) rfl (by kernel_rfl) (by kernel_rfl) (by kernel_rfl) (fun _ _ _ h => h) (Or.inr ⟨by kernel_rfl, rfl⟩) ?_
      try simp only [Act.put]
      refine wpAnyR_takeY (i := 30) (v := .bool false) rfl (by kernel_rfl) (by kernel_rfl) (by kernel_rfl) (fun _ _ _ h => h) (Or.inl ⟨by kernel_rfl, ?_⟩) ?_
      · intro W _; go_simp
      try simp only [Act.put]
      refine wpAnyR_takeY (i := 31) (v := .pointer (some ⟨gz, 0, none⟩)) rfl (by kernel_rfl) (by kernel_rfl) (by kernel_rfl) (fun _ _ _ h => h) (Or.inl ⟨by kernel_rfl, ?_⟩) ?_
      · intro W _; go_simp
      try simp only [Act.put]
      refine wpAnyR_takeY (i := 32) (v := .pointer (some ⟨gz, 0, none⟩)) rfl (by kernel_rfl) (by kernel_rfl) (by kernel_rfl) (fun _ _ _ h => h) (Or.inl ⟨by kernel_rfl, ?_⟩) ?_
      · intro W _; go_simp
      try simp only [Act.put]
      refine wpAnyR_one (i := 33) (by kernel_rfl) rfl (fun K hK => ?_)
      go_simp
      refine hK.out _ _ (.inl rfl) ?_
      clear hK K
      try simp only [Act.put]
      refine wpAnyR_takeY (i := 34) (v := .pointer (some ⟨gr, 0, none⟩)) rfl (by kernel_rfl) (by kernel_rfl) (by kernel_rfl) (fun _ _ _ h => h) (Or.inl ⟨by kernel_rfl, ?_⟩) ?_
      · intro W _; go_simp
      try simp only [Act.put]
      refine wpAnyR_takeY (i := 35) (v := .pointer (some ⟨gr, 0, none⟩)) rfl (by kernel_rfl) (by kernel_rfl) (by kernel_rfl) (fun _ _ _ h => h) (Or.inl ⟨by kernel_rfl, ?_⟩) ?_
      · intro W _; go_simp
      try simp only [Act.put]
      refine wpAnyR_one (i := 36) (by kernel_rfl) rfl (fun K hK => ?_)
      go_simp
      refine hK.out _ _ (.inl rfl) ?_
      clear hK K
      try simp only [Act.put]
      refine wpAnyR_done (by kernel_rfl) ?_ _
      go_wp2
      go_ret2
      first | exact (QPost.fin HX.out HV.out HU.out HGR.out HVO.out HUO.out HVU.out HW0.out).drew 1 | exact QPost.fin HX.out HV.out HU.out HGR.out HVO.out HUO.out HVU.out HW0.out | exact QPost.fin HX.out HV.out HU.out HGR.out HVO.out HUO.out HVU.out HW.out
end Go.Proofs.YthkobjbemmllfaaGreatDoor
