/- math/big: mulAddWWW, mulAddVWW over one word, nat.mulAddWW, nat.mul of numbers of at most one word: walked. -/
import Derived.Test.YthkobjbemmllfaaGreatDoorBigH
import Derived.Test.YthkobjbemmllfaaGreatDoorShelf
import Derived.StillTailTactics
namespace Go.Proofs.YthkobjbemmllfaaGreatDoor
open Go.RowKit

def muH (x y : Nat) : Nat := x * y / 18446744073709551616
def muL (x y : Nat) : Nat := x * y % 18446744073709551616
theorem mu_eq (x y : Nat) : muL x y + 18446744073709551616 * muH x y = x * y := by unfold muH muL; exact Nat.mod_add_div _ _
theorem muL_lt (x y : Nat) : muL x y < 18446744073709551616 := Nat.mod_lt _ (by decide)
theorem muH_lt {x y : Nat} (hx : x < 18446744073709551616) (hy : y < 18446744073709551616) : muH x y < 18446744073709551616 :=
  Nat.div_lt_of_lt_mul (Nat.mul_lt_mul'' hx hy)
theorem mulWWW (x y : Nat) (hx : x < 18446744073709551616) (hy : y < 18446744073709551616) (w : World) :
    Calls Tryz.prog 143 #[.int .u64 x, .int .u64 y, .int .u64 0] w fun e w' => e = .returned (.tuple #[.int .u64 (muH x y), .int .u64 (muL x y)]) ∧ w' = w := by
  have a1 := Tryz.bits_Mul x y hx hy w
  have hl := muL_lt x y
  have hh := muH_lt hx hy
  change Calls Tryz.prog 141 #[.int .u64 x, .int .u64 y] w (fun e w' => e = .returned (.tuple #[.int .u64 ((muH x y : Nat) : Int), .int .u64 ((muL x y : Nat) : Int)]) ∧ w' = w) at a1
  generalize muH x y = H at *
  generalize muL x y = L at *
  have a2 := badd_any L 0 0 (by decide) w
  rw [show adS L 0 0 = L by unfold adS; omega, show adC L 0 0 = 0 by unfold adC; omega] at a2
  have e1 : IntKind.u64.wrap ((H : Int) + 0) = (H : Int) := by rw [IntKind.wrap_u64]; omega
  have e2 : IntKind.u64.wrap (H : Int) = (H : Int) := by rw [IntKind.wrap_u64]; omega
  clear hl hh hx hy
  go_enter Tryz.func143, Tryz.ntmps143
  go_wp2_with fail
  refine a1.mono ?_
  rintro e w' ⟨rfl, rfl⟩
  clear a1
  go_wp2_with fail
  refine a2.mono ?_
  rintro e w' ⟨rfl, rfl⟩
  clear a2
  go_wp2
  go_ret2
  exact ⟨rfl, rfl⟩
theorem twin_mul (args : Array Value) (w : World) : (callFunc 148 args).run Tryz.prog w = .ok (.enter 36 args) w :=
  run_callFunc_twin (twin := "math/big.mulAddVWW_g") Tryz.func148 (by kernel_rfl) (by kernel_rfl) (by kernel_rfl) (by kernel_rfl) Tryz.func36 (by kernel_rfl) (by kernel_rfl) (by kernel_rfl) args w

set_option maxRecDepth 100000 in
set_option maxHeartbeats 1000000 in
theorem mulVWW_one (gz gx cz cx x y : Nat) (u : Value) (w : World) (hz : w.cell? ⟨gz, 0, none⟩ = some u) (hf : w.frozen? ⟨gz, 0, none⟩ = false) (hx : w.cell? ⟨gx, 0, none⟩ = some (.int .u64 x)) (hx1 : x < 18446744073709551616) (hy1 : y < 18446744073709551616) :
    Calls Tryz.prog 36 #[.slice (some ⟨gz, 0, none⟩) 1 cz, .slice (some ⟨gx, 0, none⟩) 1 cx, .int .u64 y, .int .u64 0] w fun e w' => e = .returned (.int .u64 (muH x y)) ∧ w' = w.setCell ⟨gz, 0, none⟩ (.int .u64 (muL x y)) := by
  have a1 := mulWWW x y hx1 hy1 w
  clear hx1 hy1
  generalize muH x y = H at *
  generalize muL x y = L at *
  go_enter Tryz.func36, Tryz.ntmps36
  go_wp2_with fail
  go_loopw [19, 8, 9] (fun vi vc _ wr => (vi = .int .i64 0 ∧ vc = .int .u64 0 ∧ wr = w) ∨ (vi = .int .i64 1 ∧ vc = .int .u64 H ∧ Hid (wr = w.setCell ⟨gz, 0, none⟩ (.int .u64 L)))) (fun vi _ _ _ => 1 - (intOf vi).toNat)
  case atStart => exact .inl ⟨rfl, rfl, rfl⟩
  case round =>
    rcases hrel with ⟨rfl, rfl, hw⟩ | ⟨rfl, rfl, hw⟩
    · subst wr
      go_wp2_with fail
      refine a1.mono ?_
      rintro e w' ⟨rfl, rfl⟩
      clear a1
      go_wp2
      go_round
      case rel => exact .inr ⟨rfl, rfl, Lib.hid trivial⟩
      case measure => simp [intOf]
    · go_wp2
      go_ret
      exact ⟨rfl, hw.out⟩

set_option maxRecDepth 100000 in
set_option maxHeartbeats 2000000 in
theorem mulAddWW_one (base h cx x y : Nat) (w : World) (hx : One w h cx x) (hy : 0 < y) (hy1 : y < 18446744073709551616) (hb : base ≤ w.heap.size) :
    Calls Tryz.prog 110 #[.slice none 0 0, .slice (some ⟨h, 0, none⟩) 1 cx, .int .u64 y, .int .u64 0] w (SetPost base none (x * y) w) := by
  obtain ⟨hxc, hxl⟩ := hx.cell
  have HD := Lib.hid hxc
  have hcx := hx.cap
  have hx1 := hx.lt
  have qy : ((y : Int) == 0) = false := by simp; omega
  clear hx hxc
  have kt := twin_mul
  go_enter Tryz.func110, Tryz.ntmps110
  go_wp2_with fail
  refine (make_two none 0 0 (by decide) w).mono ?_
  rintro e w1 ⟨rfl, hw1⟩
  have hZ : Blk w1 w.heap.size 6 (fun _ => 0) := by rw [hw1]; exact blk_six w
  have hgr : w.grownBy w1 none := by rw [hw1]; exact World.grownBy_alloc w _ none
  clear hw1
  have hz := (hZ.cell (i := 0) (by decide)).1
  have hzf := (hZ.cell (i := 0) (by decide)).2
  have hxx : w1.cell? ⟨h, 0, none⟩ = some (.int .u64 x) := (World.cell?_of_block (hgr.block h hxl (by simp))).trans HD.out
  have a1 := mulVWW_one w.heap.size h 6 cx x y _ w1 hz hzf hxx hx1 hy1
  have hS := mu_eq x y
  have hSl := muL_lt x y
  have hSh := muH_lt hx1 hy1
  generalize muH x y = H at *
  generalize muL x y = L at *
  have HS := Lib.hid hS; have HSL := Lib.hid hSl; have HSH := Lib.hid hSh
  have HB := Lib.hid hb; have HZ := Lib.hid hZ; have HGR := Lib.hid hgr
  clear hZ hgr hz hzf hxx hS hSl hSh hx1 hy1 hy hxl hb HD
  generalize hG : w.heap.size = G at *
  have HG := Lib.hid hG; clear hG
  go_wp2_with fail
  refine a1.mono ?_
  clear a1
  rintro e w2 ⟨rfl, hw2⟩
  have hB2 : Blk w2 G 6 (upd (fun _ => 0) 0 L) := by rw [hw2]; exact HZ.out.set (by omega) L
  have HG2 := Lib.hid (show w1.grownBy w2 (some G) by rw [hw2]; exact setCell_grown w1 G 0 _)
  clear hw2
  have hz1 := (hB2.cell (i := 1) (by omega)).1
  have hz1f := (hB2.cell (i := 1) (by omega)).2
  have hB3 := hB2.set (i := 1) (by omega) H
  have a2 := norm_any G 2 6 _ _ hB3 (by omega) (by decide)
  have HG3 := Lib.hid (grown_trans HG2.out (setCell_grown w2 G 1 (.int .u64 H)))
  have HB3 := Lib.hid hB3
  clear hB2 hB3
  go_wp2_with fail
  refine a2.mono ?_
  rintro e w3 ⟨rfl, rfl⟩
  go_wp2
  go_ret
  refine SetPost.mk (v' := .slice (some ⟨G, 0, none⟩) (nw (upd (upd (fun _ => 0) 0 L) 1 H) 2) 6) rfl ?_ ?_ ?_
  · have hh := nv_two (base := base) HB.out HB3.out (by decide) (by decide) (by rw [upd_ne _ _ (by decide), upd_at]; exact HSL.out) (by rw [upd_at]; exact HSH.out)
    rw [upd_at, upd_ne _ _ (by decide), upd_at, HS.out] at hh
    exact hh
  · have h1 := HGR.out; have h2 := HG3.out; have h3 := HG.out
    exact ⟨h2.os.trans h1.os, h2.tape.trans h1.tape, h2.output.trans h1.output, Nat.le_trans h1.size h2.size, fun j hj _ => (h2.block j (Nat.lt_of_lt_of_le hj h1.size) (fun e => by have := Option.some.inj e; omega)).trans (h1.block j hj (by simp))⟩
  · exact .inr ⟨G, rfl, by rw [HG.out]; exact Nat.le_refl _⟩
end Go.Proofs.YthkobjbemmllfaaGreatDoor
