/- math/big: nat.sub at two words; whole: walked. -/
import Derived.Test.YthkobjbemmllfaaGreatDoorBig7
namespace Go.Proofs.YthkobjbemmllfaaGreatDoor
open Go.RowKit

theorem sub_nat {x x1 d : Nat} (h0 : x < 18446744073709551616) (h1 : 0 < x1) (h2 : x1 < 18446744073709551616) (hd : d < 18446744073709551616) :
    sbC x d 0 ≤ 1 ∧ sbC x1 (sbC x d 0) 0 = 0 ∧ sbS x d 0 + 18446744073709551616 * sbS x1 (sbC x d 0) 0 = x + 18446744073709551616 * x1 - d ∧ sbS x d 0 < 18446744073709551616 ∧ sbS x1 (sbC x d 0) 0 < 18446744073709551616 := by
  obtain ⟨s1, s2, s3⟩ := sb_eq (b := 0) h0 hd (by decide)
  generalize sbC x d 0 = q at *
  generalize sbS x d 0 = r at *
  obtain ⟨t1, t2, t3⟩ := sb_eq (x := x1) (y := q) (b := 0) h2 (by omega) (by decide)
  have hc2 : sbC x1 q 0 = 0 := by unfold sbC; rw [if_neg (by omega)]
  rw [hc2] at t1
  exact ⟨s3, hc2, by omega, s2, t2⟩
set_option maxRecDepth 100000 in
set_option maxHeartbeats 4000000 in
theorem sub_two (base g c h cy d : Nat) (f : Nat → Nat) (w : World) (hg : base ≤ g) (hB : Blk w g c f) (hc : 5 ≤ c) (hc1 : c ≤ 100) (hf0 : f 0 < 18446744073709551616) (hf1 : 0 < f 1) (hf2 : f 1 < 18446744073709551616) (hy : One w h cy d) :
    Calls Tryz.prog 50 #[.slice (some ⟨g, 0, none⟩) 2 c, .slice (some ⟨g, 0, none⟩) 2 c, .slice (some ⟨h, 0, none⟩) 1 cy] w (SetPost base (some g) (f 0 + 18446744073709551616 * f 1 - d) w) := by
  obtain ⟨hd, hhl⟩ := hy.cell
  have a1 := make_fit (some ⟨g, 0, none⟩) 2 c 2 (by omega) (by simp) w
  have hz := (hB.cell (i := 0) (by omega)).1
  have hzf := (hB.cell (i := 0) (by omega)).2
  have a3 := fun n => subVV_one g g h c c cy (f 0) d _ (w.drewN n) hz hzf hz hd
  have HB := Lib.hid hB
  have hcy := hy.cap
  have hm := sub_nat hf0 hf1 hf2 hy.lt
  have HC2 := Lib.hid hm.2.1
  have HM := Lib.hid hm.2.2
  clear hy hB hd hz hzf hf1 hf2 hf0 hm
  generalize sbC (f 0) d 0 = cr at *
  generalize sbS (f 0) d 0 = sr at *
  have kt := twin_sub
  have hcn : ¬ c = 1 := by omega
  have hcn2 : (c = 1) = False := eq_false hcn
  go_enter Tryz.func50, Tryz.ntmps50
  go_wp2_with fail
  refine a1.mono ?_
  clear a1
  rintro e w1 ⟨rfl, rfl⟩
  go_wp2_with fail
  go_region_with (go_at_call 33; refine (a3 1).mono ?_; rintro e w2 ⟨rfl, k, rfl⟩)
  all_goals
    have hB2 : Blk (((w.drewN 1).setCell ⟨g, 0, none⟩ (.int .u64 sr)).drewN k) g c (upd f 0 sr) := ((HB.out.drewN 1).set (by omega) sr).drewN k
    have HG2 := Lib.hid (show w.grownBy (((w.drewN 1).setCell ⟨g, 0, none⟩ (.int .u64 sr)).drewN k) (some g) from grown_trans (grown_trans (drewN_grown w 1 _) (setCell_grown _ g 0 _)) (drewN_grown _ k _))
    clear a3
    generalize (((w.drewN 1).setCell ⟨g, 0, none⟩ (.int .u64 sr)).drewN k) = w2 at *
    have hz1 := (hB2.cell (i := 1) (by omega)).1
    have hz1f := (hB2.cell (i := 1) (by omega)).2
    rw [upd_ne _ _ (by decide)] at hz1
    have a4 := fun n => subVW_one g (c - 1) (c - 1) (f 1) cr (w2.drewN n) hz1f hz1
    have HB2 := Lib.hid hB2
    rw [HC2.out] at a4
    clear hz1 hz1f hB2
    generalize sbS (f 1) cr 0 = s2 at *
    go_wp2_with fail
    go_region_with (go_at_call 85; refine (a4 1).mono ?_; rintro e w3 ⟨rfl, k3, rfl⟩)
    all_goals
      have hB3 : Blk (((w2.drewN 1).setCell ⟨g, 1, none⟩ (.int .u64 s2)).drewN k3) g c (upd (upd f 0 sr) 1 s2) := ((HB2.out.drewN 1).set (by omega) s2).drewN k3
      have HG3 := Lib.hid (show w.grownBy (((w2.drewN 1).setCell ⟨g, 1, none⟩ (.int .u64 s2)).drewN k3) (some g) from grown_trans HG2.out (grown_trans (grown_trans (drewN_grown w2 1 _) (setCell_grown _ g 1 _)) (drewN_grown _ k3 _)))
      clear a4
      generalize (((w2.drewN 1).setCell ⟨g, 1, none⟩ (.int .u64 s2)).drewN k3) = w3 at *
      have a5 := norm_any g 2 c _ _ hB3 (by omega) hc1
      have HB3 := Lib.hid hB3
      clear hB3
      go_wp2_with fail
      refine a5.mono ?_
      clear a5
      rintro e w4 ⟨rfl, rfl⟩
      go_wp2
      go_ret
      refine SetPost.mk (v' := .slice (some ⟨g, 0, none⟩) (nw (upd (upd f 0 sr) 1 s2) 2) c) rfl ?_ HG3.out (.inl rfl)
      obtain ⟨q1, q2, q3⟩ := HM.out
      have hh := nv_two (base := base) hg HB3.out hc hc1 (by rw [upd_ne _ _ (by decide), upd_at]; exact q2) (by rw [upd_at]; exact q3)
      rw [upd_at, upd_ne _ _ (show (0 : Nat) ≠ 1 by decide), upd_at, q1] at hh
      exact hh

/-- v less the word, onto v. -/
theorem sub_any (base h cy d M : Nat) (v : Value) (w : World) (hv : Nv w base v M) (hy : One w h cy d) (hM : d ≤ M) :
    Calls Tryz.prog 50 #[v, v, .slice (some ⟨h, 0, none⟩) 1 cy] w (SetPost base v.ownBlock (M - d) w) := by
  have hp := hy.pos
  rcases hv with ⟨_, h2⟩ | ⟨g, n, c, f, rfl, hg, hB, hc, hc1, hn, ⟨_, h2⟩ | ⟨rfl, rfl, h3, h4⟩ | ⟨rfl, rfl, h3, h4, h5⟩⟩
  · omega
  · omega
  · exact sub_words base g g h c c cy (f 0) d f w hg hB hc hc1 1 (hB.cell (i := 0) (by omega)).1 hy.cell.1 (by omega) hy.cap h4 hy.lt hM
  · exact sub_two base g c h cy d f w hg hB (by omega) hc1 h3 h4 h5 hy
/-- The word less v, onto v. -/
theorem bus_any (base h cy d M : Nat) (v : Value) (w : World) (hv : Nv w base v M) (hy : One w h cy d) (hM : M < d) (hb : base ≤ w.heap.size) :
    Calls Tryz.prog 50 #[v, .slice (some ⟨h, 0, none⟩) 1 cy, v] w (SetPost base v.ownBlock (d - M) w) := by
  rcases Nat.eq_zero_or_pos M with rfl | hp
  · rw [Nat.sub_zero]; exact sub_set base h cy d v w hv hy hb
  · have hl := hy.lt
    rcases hv with ⟨_, h2⟩ | ⟨g, n, c, f, rfl, hg, hB, hc, hc1, hn, ⟨_, h2⟩ | ⟨rfl, rfl, h3, h4⟩ | ⟨rfl, rfl, h3, h4, h5⟩⟩
    · omega
    · omega
    · exact sub_words base g h g c cy c d (f 0) f w hg hB hc hc1 1 hy.cell.1 (hB.cell (i := 0) (by omega)).1 hy.cap (by omega) hy.lt h4 (by omega)
    · omega
end Go.Proofs.YthkobjbemmllfaaGreatDoor
