/- math/big: nat.add onto itself, at two words; whole: walked. -/
import Derived.Test.YthkobjbemmllfaaGreatDoorBig4
namespace Go.Proofs.YthkobjbemmllfaaGreatDoor
open Go.RowKit

set_option maxRecDepth 100000 in
set_option maxHeartbeats 4000000 in
theorem add_two (base g c h cy d : Nat) (f : Nat → Nat) (w : World) (hg : base ≤ g) (hB : Blk w g c f) (hc : 5 ≤ c) (hc1 : c ≤ 100) (hf0 : f 0 < 18446744073709551616) (hf1 : 0 < f 1) (hf2 : f 1 < 18446744073709551616) (hy : One w h cy d) (hsum : f 0 + 18446744073709551616 * f 1 + d < 340282366920938463463374607431768211456) :
    Calls Tryz.prog 48 #[.slice (some ⟨g, 0, none⟩) 2 c, .slice (some ⟨g, 0, none⟩) 2 c, .slice (some ⟨h, 0, none⟩) 1 cy] w (SetPost base (some g) (f 0 + 18446744073709551616 * f 1 + d) w) := by
  obtain ⟨hd, hhl⟩ := hy.cell
  have a1 := make_fit (some ⟨g, 0, none⟩) 2 c 3 (by omega) (by simp) w
  have hz := (hB.cell (i := 0) (by omega)).1
  have hzf := (hB.cell (i := 0) (by omega)).2
  have a3 := fun n => addVV_one g g h c c cy (f 0) d _ (w.drewN n) hz hzf hz hd
  have HB := Lib.hid hB; have HY := Lib.hid hy
  have hS := ad_eq (f 0) d 0
  have hSl := adS_lt (f 0) d 0
  have hC1 : adC (f 0) d 0 ≤ 1 := by have := hy.lt; unfold adC; omega
  have hcy := hy.cap
  have HS := Lib.hid hS; have HSL := Lib.hid hSl
  have HF1 := Lib.hid hf1; have HF2 := Lib.hid hf2; have HSUM := Lib.hid hsum; have HF0 := Lib.hid hf0
  have hT := ad_eq (f 1) (adC (f 0) d 0) 0
  have hTl := adS_lt (f 1) (adC (f 0) d 0) 0
  have HC1 := Lib.hid hC1
  have HT := Lib.hid hT; have HTL := Lib.hid hTl
  clear hy hB hd hz hzf hS hSl hf1 hf2 hsum hT hTl hC1 hf0
  generalize adC (f 0) d 0 = cr at *
  generalize adS (f 0) d 0 = sr at *
  have kt := twin_add
  go_enter Tryz.func48, Tryz.ntmps48
  go_wp2_with fail
  refine a1.mono ?_
  clear a1
  rintro e w1 ⟨rfl, rfl⟩
  go_wp2_with fail
  go_region_with (go_at_call 32; refine (a3 1).mono ?_; rintro e w2 ⟨rfl, k, rfl⟩)
  all_goals
    have hB2 : Blk (((w.drewN 1).setCell ⟨g, 0, none⟩ (.int .u64 sr)).drewN k) g c (upd f 0 sr) := ((HB.out.drewN 1).set (by omega) sr).drewN k
    have HG2 := Lib.hid (show w.grownBy (((w.drewN 1).setCell ⟨g, 0, none⟩ (.int .u64 sr)).drewN k) (some g) from grown_trans (grown_trans (drewN_grown w 1 _) (setCell_grown _ g 0 _)) (drewN_grown _ k _))
    clear a3
    generalize (((w.drewN 1).setCell ⟨g, 0, none⟩ (.int .u64 sr)).drewN k) = w2 at *
    have hz1 := (hB2.cell (i := 1) (by omega)).1
    have hz1f := (hB2.cell (i := 1) (by omega)).2
    rw [upd_ne _ _ (by decide)] at hz1
    have a4 := fun n => addVW_one g (c - 1) (c - 1) (f 1) cr (w2.drewN n) hz1f hz1 HF2.out HC1.out
    have HB2 := Lib.hid hB2
    clear hz1 hz1f hB2
    generalize adC (f 1) cr 0 = c2 at *
    generalize adS (f 1) cr 0 = s2 at *
    go_wp2_with fail
    go_region_with (go_at_call 81; refine (a4 1).mono ?_; rintro e w3 ⟨rfl, k3, rfl⟩)
    all_goals
      have hB3 : Blk (((w2.drewN 1).setCell ⟨g, 1, none⟩ (.int .u64 s2)).drewN k3) g c (upd (upd f 0 sr) 1 s2) := ((HB2.out.drewN 1).set (by omega) s2).drewN k3
      have HG3 := Lib.hid (show w.grownBy (((w2.drewN 1).setCell ⟨g, 1, none⟩ (.int .u64 s2)).drewN k3) (some g) from grown_trans HG2.out (grown_trans (grown_trans (drewN_grown w2 1 _) (setCell_grown _ g 1 _)) (drewN_grown _ k3 _)))
      clear a4
      generalize (((w2.drewN 1).setCell ⟨g, 1, none⟩ (.int .u64 s2)).drewN k3) = w3 at *
      have hz2 := (hB3.cell (i := 2) (by omega)).1
      have hz2f := (hB3.cell (i := 2) (by omega)).2
      have hB4 := hB3.set (i := 2) (by omega) c2
      have a5 := norm_any g 3 c _ _ hB4 (by omega) hc1
      have HG4 := Lib.hid (grown_trans HG3.out (setCell_grown w3 g 2 (.int .u64 c2)))
      have HB4 := Lib.hid hB4
      clear hB3 hB4
      go_wp2_with fail
      refine a5.mono ?_
      clear a5
      rintro e w4 ⟨rfl, rfl⟩
      go_wp2
      go_ret
      refine SetPost.mk (v' := .slice (some ⟨g, 0, none⟩) (nw (upd (upd (upd f 0 sr) 1 s2) 2 c2) 3) c) rfl ?_ HG4.out (.inl rfl)
      have q1 := HS.out; have q2 := HT.out; have q3 := HSUM.out; have q4 := HSL.out; have q5 := HTL.out; have q6 := HF1.out; have q7 := HC1.out
      have hc2 : c2 = 0 := by omega
      have hh := nv_three (base := base) hg HB4.out hc hc1 (by rw [upd_ne _ _ (by decide), upd_ne _ _ (by decide), upd_at]; exact q4) (by rw [upd_ne _ _ (by decide), upd_at]; exact q5) (by rw [upd_at]; exact hc2)
      rw [upd_ne _ _ (show (0 : Nat) ≠ 2 by decide), upd_ne _ _ (show (0 : Nat) ≠ 1 by decide), upd_at, upd_ne _ _ (show (1 : Nat) ≠ 2 by decide), upd_at, show sr + 18446744073709551616 * s2 = f 0 + 18446744073709551616 * f 1 + d by omega] at hh
      exact hh

theorem add_any (base h cy d M : Nat) (v : Value) (w : World) (hv : Nv w base v M) (hy : One w h cy d) (hne : v.ownBlock ≠ some h) (hb : base ≤ w.heap.size) (hM : M + d < 340282366920938463463374607431768211456) :
    Calls Tryz.prog 48 #[v, v, .slice (some ⟨h, 0, none⟩) 1 cy] w (SetPost base v.ownBlock (M + d) w) := by
  rcases Nat.eq_zero_or_pos M with rfl | hp
  · rw [Nat.zero_add]; exact add_zero base h cy d v w hv hy hb
  · rcases hv with ⟨_, h2⟩ | ⟨g, n, c, f, rfl, hg, hB, hc, hc1, hn, ⟨_, h2⟩ | ⟨rfl, rfl, h3, h4⟩ | ⟨rfl, rfl, h3, h4, h5⟩⟩
    · omega
    · omega
    · exact add_one base g c h cy d f w hg hB hc hc1 h3 h4 hy (fun e => hne (by rw [e]; rfl))
    · exact add_two base g c h cy d f w hg hB (by omega) hc1 h3 h4 h5 hy hM
end Go.Proofs.YthkobjbemmllfaaGreatDoor
