/- math/big: nat.sub onto its first and its second argument: walked. -/
import Derived.Test.YthkobjbemmllfaaGreatDoorBig6
namespace Go.Proofs.YthkobjbemmllfaaGreatDoor
open Go.RowKit

set_option maxRecDepth 100000 in
set_option maxHeartbeats 2000000 in
/-- One word less one word; the place of the answer is one of theirs. -/
theorem sub_words (base g gx gy c cx cy x y : Nat) (f : Nat → Nat) (w : World) (hg : base ≤ g) (hB : Blk w g c f) (hc : c = 1 ∨ 5 ≤ c) (hc1 : c ≤ 100) (n : Nat) (hx : w.cell? ⟨gx, 0, none⟩ = some (.int .u64 x)) (hy : w.cell? ⟨gy, 0, none⟩ = some (.int .u64 y)) (hcx : 1 ≤ cx) (hcy : 1 ≤ cy)
    (hx1 : x < 18446744073709551616) (hy1 : y < 18446744073709551616) (hle : y ≤ x) :
    Calls Tryz.prog 50 #[.slice (some ⟨g, 0, none⟩) n c, .slice (some ⟨gx, 0, none⟩) 1 cx, .slice (some ⟨gy, 0, none⟩) 1 cy] w (SetPost base (some g) (x - y) w) := by
  have a1 := make_fit (some ⟨g, 0, none⟩) n c 1 (by omega) (by simp) w
  have hz := (hB.cell (i := 0) (by omega)).1
  have hzf := (hB.cell (i := 0) (by omega)).2
  have a3 := fun n => subVV_one g gx gy c cx cy x y _ (w.drewN n) hz hzf hx hy
  have hs : sbS x y 0 = x - y := by unfold sbS; omega
  have hb0 : sbC x y 0 = 0 := by unfold sbC; rw [if_neg (by omega)]
  rw [hs, hb0] at a3
  have HB := Lib.hid hB; have HC := Lib.hid hc
  have hcap : 1 ≤ c := by omega
  have HLT := Lib.hid (show x - y < 18446744073709551616 by omega)
  clear hB hz hzf hx hy hs hb0 hx1 hy1 hle hc
  generalize x - y = sr at *
  have kt := twin_sub
  go_enter Tryz.func50, Tryz.ntmps50
  go_wp2_with fail
  refine a1.mono ?_
  clear a1
  rintro e w1 ⟨rfl, rfl⟩
  go_wp2_with fail
  go_region_with (go_at_call 33; refine (a3 1).mono ?_; rintro e w2 ⟨rfl, k, rfl⟩)
  all_goals
    have hB2 : Blk (((w.drewN 1).setCell ⟨g, 0, none⟩ (.int .u64 sr)).drewN k) g c (upd f 0 sr) := ((HB.out.drewN 1).set (by omega) sr).drewN k
    have HG2 := Lib.hid (show w.grownBy (((w.drewN 1).setCell ⟨g, 0, none⟩ (.int .u64 sr)).drewN k) (some g) from grown_trans (grown_trans (drewN_grown w 1 _) (setCell_grown _ g 0 _)) (drewN_grown _ k _))
    clear a3
    generalize (((w.drewN 1).setCell ⟨g, 0, none⟩ (.int .u64 sr)).drewN k) = w2 at *
    have a5 := norm_any g 1 c _ _ hB2 (by omega) hc1
    have HB2 := Lib.hid hB2
    clear hB2
    go_wp2_with fail
    refine a5.mono ?_
    clear a5
    rintro e w4 ⟨rfl, rfl⟩
    go_wp2
    go_ret
    refine SetPost.mk (v' := .slice (some ⟨g, 0, none⟩) (nw (upd f 0 sr) 1) c) rfl ?_ HG2.out (.inl rfl)
    have hh := nv_one (base := base) hg HB2.out HC.out hc1 (by rw [upd_at]; exact HLT.out)
    rw [upd_at] at hh
    exact hh

set_option maxRecDepth 100000 in
set_option maxHeartbeats 1000000 in
theorem sub_set (base h cy d : Nat) (v : Value) (w : World) (hv : Nv w base v 0) (hy : One w h cy d) (hb : base ≤ w.heap.size) : Calls Tryz.prog 50 #[v, .slice (some ⟨h, 0, none⟩) 1 cy, v] w (SetPost base v.ownBlock d w) := by
  have a1 := set_any base h cy d v w hv hy hb
  obtain ⟨A, c, rfl⟩ := hv.zero
  clear hv hy
  go_enter Tryz.func50, Tryz.ntmps50
  go_wp2_with fail
  refine a1.mono ?_
  clear a1
  rintro e w1 ⟨v', rfl, h1, h2, h3⟩
  have H1 := Lib.hid h1; have H2 := Lib.hid h2; have H3 := Lib.hid h3
  clear h1 h2 h3
  go_wp2
  go_ret
  exact SetPost.mk rfl H1.out H2.out H3.out

end Go.Proofs.YthkobjbemmllfaaGreatDoor
