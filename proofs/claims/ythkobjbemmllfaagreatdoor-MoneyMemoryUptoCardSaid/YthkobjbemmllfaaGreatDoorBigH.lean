/- math/big: nat.add, nat.sub, nat.cmp of two numbers of at most one word, into new memory; Int.Sub of two int64: walked. -/
import Derived.Test.YthkobjbemmllfaaGreatDoorBigG
namespace Go.Proofs.YthkobjbemmllfaaGreatDoor
open Go.RowKit

set_option maxRecDepth 100000 in
set_option maxHeartbeats 2000000 in
theorem add_pair (base h cx x k cy y : Nat) (w : World) (hx : One w h cx x) (hy : One w k cy y) (hb : base ≤ w.heap.size) :
    Calls Tryz.prog 48 #[.slice none 0 0, .slice (some ⟨h, 0, none⟩) 1 cx, .slice (some ⟨k, 0, none⟩) 1 cy] w (SetPost base none (x + y) w) := by
  obtain ⟨hxc, hxl⟩ := hx.cell
  obtain ⟨hyc, hyl⟩ := hy.cell
  have HD := Lib.hid hxc; have HE := Lib.hid hyc
  have HX := Lib.hid hx; have HY := Lib.hid hy
  have hcx := hx.cap; have hcy := hy.cap
  clear hx hy hxc hyc
  have kt := twin_add
  go_enter Tryz.func48, Tryz.ntmps48
  go_wp2_with fail
  refine (make_two none 0 0 (by decide) w).mono ?_
  rintro e w1 ⟨rfl, hw1⟩
  have hZ : Blk w1 w.heap.size 6 (fun _ => 0) := by rw [hw1]; exact blk_six w
  have hgr : w.grownBy w1 none := by rw [hw1]; exact World.grownBy_alloc w _ none
  clear hw1
  have hz := (hZ.cell (i := 0) (by decide)).1
  have hzf := (hZ.cell (i := 0) (by decide)).2
  have hxx : w1.cell? ⟨h, 0, none⟩ = some (.int .u64 x) := (World.cell?_of_block (hgr.block h hxl (by simp))).trans HD.out
  have hyy : w1.cell? ⟨k, 0, none⟩ = some (.int .u64 y) := (World.cell?_of_block (hgr.block k hyl (by simp))).trans HE.out
  have a1 := fun n => addVV_one w.heap.size h k 6 cx cy x y _ (w1.drewN n) hz hzf hxx hyy
  have hS := ad_eq x y 0
  have hSl := adS_lt x y 0
  have HZ := Lib.hid hZ; have HGR := Lib.hid hgr
  clear hZ hgr hz hzf hxx hyy
  have HA := Lib.hid (show adC x y 0 < 18446744073709551616 by have := HX.out.lt; have := HY.out.lt; unfold adC; omega)
  generalize adC x y 0 = cr at *
  generalize adS x y 0 = sr at *
  have HS := Lib.hid hS; have HSL := Lib.hid hSl
  have HB := Lib.hid hb
  clear hS hSl hxl hyl hb
  generalize hG : w.heap.size = G at *
  have HG := Lib.hid hG; clear hG
  go_wp2_with fail
  go_region_with (go_at_call 32; refine (a1 1).mono ?_; rintro e w2 ⟨rfl, k, rfl⟩)
  all_goals
    have hB2 : Blk (((w1.drewN 1).setCell ⟨G, 0, none⟩ (.int .u64 sr)).drewN k) G 6 (upd (fun _ => 0) 0 sr) := ((HZ.out.drewN 1).set (by omega) sr).drewN k
    have HG2 := Lib.hid (show w1.grownBy (((w1.drewN 1).setCell ⟨G, 0, none⟩ (.int .u64 sr)).drewN k) (some G) from grown_trans (grown_trans (drewN_grown w1 1 _) (setCell_grown _ G 0 _)) (drewN_grown _ k _))
    clear a1
    generalize (((w1.drewN 1).setCell ⟨G, 0, none⟩ (.int .u64 sr)).drewN k) = w2 at *
    have hz1 := (hB2.cell (i := 1) (by omega)).1
    have hz1f := (hB2.cell (i := 1) (by omega)).2
    have hB3 := hB2.set (i := 1) (by omega) cr
    have a2 := norm_any G 2 6 _ _ hB3 (by omega) (by decide)
    have HG3 := Lib.hid (grown_trans HG2.out (setCell_grown w2 G 1 (.int .u64 cr)))
    have HB3 := Lib.hid hB3
    clear hB2 hB3
    go_wp2_with fail
    refine a2.mono ?_
    rintro e w3 ⟨rfl, rfl⟩
    go_wp2
    go_ret
    refine SetPost.mk (v' := .slice (some ⟨G, 0, none⟩) (nw (upd (upd (fun _ => 0) 0 sr) 1 cr) 2) 6) rfl ?_ ?_ ?_
    · have hh := nv_two (base := base) HB.out HB3.out (by decide) (by decide) (by rw [upd_ne _ _ (by decide), upd_at]; exact HSL.out) (by rw [upd_at]; exact HA.out)
      rw [upd_at, upd_ne _ _ (by decide), upd_at, HS.out, Nat.add_zero] at hh
      exact hh
    · have h1 := HGR.out; have h2 := HG3.out; have h3 := HG.out
      exact ⟨h2.os.trans h1.os, h2.tape.trans h1.tape, h2.output.trans h1.output, Nat.le_trans h1.size h2.size, fun j hj _ => (h2.block j (Nat.lt_of_lt_of_le hj h1.size) (fun e => by have := Option.some.inj e; omega)).trans (h1.block j hj (by simp))⟩
    · exact .inr ⟨G, rfl, by rw [HG.out]; exact Nat.le_refl _⟩

set_option maxRecDepth 100000 in
set_option maxHeartbeats 2000000 in
theorem sub_pair (base h cx x k cy y : Nat) (w : World) (hx : One w h cx x) (hy : One w k cy y) (hb : base ≤ w.heap.size) (hle : y ≤ x) :
    Calls Tryz.prog 50 #[.slice none 0 0, .slice (some ⟨h, 0, none⟩) 1 cx, .slice (some ⟨k, 0, none⟩) 1 cy] w (SetPost base none (x - y) w) := by
  obtain ⟨hxc, hxl⟩ := hx.cell
  obtain ⟨hyc, hyl⟩ := hy.cell
  have HD := Lib.hid hxc; have HE := Lib.hid hyc
  have hcx := hx.cap; have hcy := hy.cap
  have HLT := Lib.hid (show x - y < 18446744073709551616 by have := hx.lt; omega)
  have hs : sbS x y 0 = x - y := by have := hx.lt; unfold sbS; omega
  have hb0 : sbC x y 0 = 0 := by unfold sbC; rw [if_neg (by omega)]
  have HS := Lib.hid hs; have HB0 := Lib.hid hb0
  clear hx hy hxc hyc hle hs hb0
  have kt := twin_sub
  go_enter Tryz.func50, Tryz.ntmps50
  go_wp2_with fail
  refine (make_one w).mono ?_
  rintro e w1 ⟨rfl, hw1⟩
  have hZ : Blk w1 w.heap.size 1 (fun _ => 0) := by rw [hw1]; exact blk_new w 0
  have hgr : w.grownBy w1 none := by rw [hw1]; exact World.grownBy_alloc w _ none
  clear hw1
  have hz := (hZ.cell (i := 0) (by decide)).1
  have hzf := (hZ.cell (i := 0) (by decide)).2
  have hxx : w1.cell? ⟨h, 0, none⟩ = some (.int .u64 x) := (World.cell?_of_block (hgr.block h hxl (by simp))).trans HD.out
  have hyy : w1.cell? ⟨k, 0, none⟩ = some (.int .u64 y) := (World.cell?_of_block (hgr.block k hyl (by simp))).trans HE.out
  have a3 := fun n => subVV_one w.heap.size h k 1 cx cy x y _ (w1.drewN n) hz hzf hxx hyy
  rw [HS.out, HB0.out] at a3
  have HZ := Lib.hid hZ; have HGR := Lib.hid hgr
  clear hZ hgr hz hzf hxx hyy HS HB0
  generalize x - y = sr at *
  have HB := Lib.hid hb
  clear hxl hyl hb
  generalize hG : w.heap.size = G at *
  have HG := Lib.hid hG; clear hG
  go_wp2_with fail
  go_region_with (go_at_call 33; refine (a3 1).mono ?_; rintro e w2 ⟨rfl, k, rfl⟩)
  all_goals
    have hB2 : Blk (((w1.drewN 1).setCell ⟨G, 0, none⟩ (.int .u64 sr)).drewN k) G 1 (upd (fun _ => 0) 0 sr) := ((HZ.out.drewN 1).set (by omega) sr).drewN k
    have HG2 := Lib.hid (show w1.grownBy (((w1.drewN 1).setCell ⟨G, 0, none⟩ (.int .u64 sr)).drewN k) (some G) from grown_trans (grown_trans (drewN_grown w1 1 _) (setCell_grown _ G 0 _)) (drewN_grown _ k _))
    clear a3
    generalize (((w1.drewN 1).setCell ⟨G, 0, none⟩ (.int .u64 sr)).drewN k) = w2 at *
    have a5 := norm_any G 1 1 _ _ hB2 (by omega) (by decide)
    have HB2 := Lib.hid hB2
    clear hB2
    go_wp2_with fail
    refine a5.mono ?_
    clear a5
    rintro e w4 ⟨rfl, rfl⟩
    go_wp2
    go_ret
    refine SetPost.mk (v' := .slice (some ⟨G, 0, none⟩) (nw (upd (fun _ => 0) 0 sr) 1) 1) rfl ?_ ?_ ?_
    · have hh := nv_one (base := base) HB.out HB2.out (.inl rfl) (by decide) (by rw [upd_at]; exact HLT.out)
      rw [upd_at] at hh
      exact hh
    · have h1 := HGR.out; have h2 := HG2.out; have h3 := HG.out
      exact ⟨h2.os.trans h1.os, h2.tape.trans h1.tape, h2.output.trans h1.output, Nat.le_trans h1.size h2.size, fun j hj _ => (h2.block j (Nat.lt_of_lt_of_le hj h1.size) (fun e => by have := Option.some.inj e; omega)).trans (h1.block j hj (by simp))⟩
    · exact .inr ⟨G, rfl, by rw [HG.out]; exact Nat.le_refl _⟩

theorem addW (base X Y : Nat) (xv yv : Value) (w : World) (hx : W1 w xv X) (hy : W1 w yv Y) (hb : base ≤ w.heap.size) : Calls Tryz.prog 48 #[.slice none 0 0, xv, yv] w (SetPost base none (X + Y) w) := by
  have hn : Nv w base (.slice none 0 0) 0 := .inl ⟨rfl, rfl⟩
  rcases hx with ⟨rfl, rfl⟩ | ⟨h, rfl, ox⟩ <;> rcases hy with ⟨rfl, rfl⟩ | ⟨k, rfl, oy⟩
  · exact add_nil base 0 _ w hn
  · rw [Nat.zero_add]; exact add_zero base k 1 Y _ w hn oy hb
  · exact add_swap base h 1 X _ w hn ox hb
  · exact add_pair base h 1 X k 1 Y w ox oy hb
theorem subW (base X Y : Nat) (xv yv : Value) (w : World) (hx : W1 w xv X) (hy : W1 w yv Y) (hb : base ≤ w.heap.size) (hle : Y ≤ X) : Calls Tryz.prog 50 #[.slice none 0 0, xv, yv] w (SetPost base none (X - Y) w) := by
  have hn : Nv w base (.slice none 0 0) 0 := .inl ⟨rfl, rfl⟩
  rcases hx with ⟨rfl, rfl⟩ | ⟨h, rfl, ox⟩ <;> rcases hy with ⟨rfl, rfl⟩ | ⟨k, rfl, oy⟩
  · exact sub_nil base 0 _ w hn
  · exact absurd oy.pos (by omega)
  · exact sub_set base h 1 X _ w hn ox hb
  · exact sub_pair base h 1 X k 1 Y w ox oy hb hle
theorem cmpW (X Y : Nat) (xv yv : Value) (w : World) (hx : W1 w xv X) (hy : W1 w yv Y) : Calls Tryz.prog 49 #[xv, yv] w fun e w' => e = .returned (.int .i64 (cmpI X Y)) ∧ ∃ k, w' = w.drewN k := by
  rcases hx with ⟨rfl, rfl⟩ | ⟨h, rfl, ox⟩ <;> rcases hy with ⟨rfl, rfl⟩ | ⟨k, rfl, oy⟩
  · exact (cmp_nil_nil w).mono fun e w' ⟨h1, h2⟩ => ⟨h1, 0, h2⟩
  · exact cmp_any 0 k 1 Y 0 _ w (.inl ⟨rfl, rfl⟩) oy
  · refine (cmp_many_nil _ 0 1 w).mono fun e w' ⟨h1, h2⟩ => ⟨?_, 0, h2⟩
    have := ox.pos
    rw [h1]; unfold cmpI; rw [if_neg (by omega), if_neg (by omega)]
  · exact cmp_any 0 k 1 Y X _ w (W1.nv (.inr ⟨h, rfl, ox⟩) (fun _ _ => Nat.zero_le _)) oy
end Go.Proofs.YthkobjbemmllfaaGreatDoor
