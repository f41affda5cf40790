/- math/big: nat.add, onto itself: walked. -/
import Derived.Test.YthkobjbemmllfaaGreatDoorBig3
namespace Go.Proofs.YthkobjbemmllfaaGreatDoor
open Go.RowKit

theorem Nv.zero {w : World} {base : Nat} {v : Value} (h : Nv w base v 0) : ∃ A c, v = .slice A 0 c := by
  rcases h with ⟨h1, _⟩ | ⟨g, n, c, f, h1, h2, h3, h4, h5, _, h6 | h6 | h6⟩
  · exact ⟨none, 0, h1⟩
  · exact ⟨_, c, by rw [h1, h6.1]⟩
  · omega
  · omega
theorem SetPost.mk {base d : Nat} {b : Option Nat} {w w' : World} {e : Ending} {v' : Value} (h1 : e = .returned v') (h2 : Nv w' base v' d) (h3 : w.grownBy w' b) (h4 : v'.ownBlock = b ∨ ∃ k, v'.ownBlock = some k ∧ w.heap.size ≤ k) : SetPost base b d w e w' := ⟨v', h1, h2, h3, h4⟩

set_option maxRecDepth 100000 in
set_option maxHeartbeats 1000000 in
theorem add_swap (base h cy d : Nat) (v : Value) (w : World) (hv : Nv w base v 0) (hy : One w h cy d) (hb : base ≤ w.heap.size) : Calls Tryz.prog 48 #[v, .slice (some ⟨h, 0, none⟩) 1 cy, v] w (SetPost base v.ownBlock d w) := by
  have a1 := set_any base h cy d v w hv hy hb
  obtain ⟨A, c, rfl⟩ := hv.zero
  clear hv hy
  go_enter Tryz.func48, Tryz.ntmps48
  go_wp2_with fail
  refine a1.mono ?_
  clear a1
  rintro e w1 ⟨v', rfl, h1, h2, h3⟩
  have H1 := Lib.hid h1; have H2 := Lib.hid h2; have H3 := Lib.hid h3
  clear h1 h2 h3
  go_wp2
  go_ret
  exact SetPost.mk rfl H1.out H2.out H3.out
set_option maxRecDepth 100000 in
set_option maxHeartbeats 1000000 in
theorem add_zero (base h cy d : Nat) (v : Value) (w : World) (hv : Nv w base v 0) (hy : One w h cy d) (hb : base ≤ w.heap.size) : Calls Tryz.prog 48 #[v, v, .slice (some ⟨h, 0, none⟩) 1 cy] w (SetPost base v.ownBlock d w) := by
  have a1 := add_swap base h cy d v w hv hy hb
  obtain ⟨A, c, rfl⟩ := hv.zero
  clear hv hy
  go_enter Tryz.func48, Tryz.ntmps48
  go_wp2_with fail
  refine a1.mono ?_
  clear a1
  rintro e w1 ⟨v', rfl, h1, h2, h3⟩
  have H1 := Lib.hid h1; have H2 := Lib.hid h2; have H3 := Lib.hid h3
  clear h1 h2 h3
  go_wp2
  go_ret
  exact SetPost.mk rfl H1.out H2.out H3.out

/-- Room for two words: where the number lies, or new. -/
def TwoPost (g c : Nat) (f : Nat → Nat) (w : World) (e : Ending) (w' : World) : Prop :=
  ∃ G C F, e = .returned (.slice (some ⟨G, 0, none⟩) 2 C) ∧ Blk w' G C F ∧ 5 ≤ C ∧ C ≤ 100 ∧ Blk w' g c f ∧ w.grownBy w' none ∧ (G = g ∨ w.heap.size ≤ G)
theorem make_two_gen (g n c : Nat) (f : Nat → Nat) (w : World) (hB : Blk w g c f) (hc : c = 1 ∨ 5 ≤ c) (hc1 : c ≤ 100) : Calls Tryz.prog 79 #[.slice (some ⟨g, 0, none⟩) n c, .int .i64 2] w (TwoPost g c f w) := by
  rcases hc with rfl | hc
  · refine (make_two _ n 1 (by decide) w).mono ?_
    rintro e w' ⟨rfl, rfl⟩
    exact ⟨w.heap.size, 6, _, rfl, blk_six w, by decide, by decide, hB.below (Below.new w _), World.grownBy_alloc w _ none, .inr (Nat.le_refl _)⟩
  · refine (make_fit (some ⟨g, 0, none⟩) n c 2 (by omega) (by simp) w).mono ?_
    rintro e w' ⟨rfl, rfl⟩
    exact ⟨g, c, f, rfl, hB, hc, hc1, hB, ⟨rfl, rfl, rfl, Nat.le_refl _, fun _ _ _ => rfl⟩, .inl rfl⟩

theorem two_grown {w w1 w2 : World} {g G : Nat} (h : w.grownBy w1 none) (k : w1.grownBy w2 (some G)) (hat : G = g ∨ w.heap.size ≤ G) : w.grownBy w2 (some g) :=
  ⟨k.os.trans h.os, k.tape.trans h.tape, k.output.trans h.output, Nat.le_trans h.size k.size, fun j hj hne => (k.block j (Nat.lt_of_lt_of_le hj h.size) (fun e => by
    have e2 := Option.some.inj e
    rcases hat with h1 | h1
    · exact hne (by rw [e2, h1])
    · omega)).trans (h.block j hj (by simp))⟩
set_option maxRecDepth 100000 in
set_option maxHeartbeats 2000000 in
theorem add_one (base g c h cy d : Nat) (f : Nat → Nat) (w : World) (hg : base ≤ g) (hB : Blk w g c f) (hc : c = 1 ∨ 5 ≤ c) (hc1 : c ≤ 100) (hf0 : 0 < f 0) (hf1 : f 0 < 18446744073709551616) (hy : One w h cy d) (hne : g ≠ h) :
    Calls Tryz.prog 48 #[.slice (some ⟨g, 0, none⟩) 1 c, .slice (some ⟨g, 0, none⟩) 1 c, .slice (some ⟨h, 0, none⟩) 1 cy] w (SetPost base (some g) (f 0 + d) w) := by
  obtain ⟨hd, hhl⟩ := hy.cell
  have hgl := hB.lt
  have a1 := make_two_gen g 1 c f w hB hc hc1
  have HB := Lib.hid hB; have HY := Lib.hid hy
  have HD := Lib.hid hd
  clear hy hB hd
  have kt := twin_add
  have hc0 : 1 ≤ c := by omega
  have hcy := HY.out.cap
  have HC := Lib.hid hc
  clear hc
  go_enter Tryz.func48, Tryz.ntmps48
  go_wp2_with fail
  refine a1.mono ?_
  clear a1
  rintro e w1 ⟨G, C, F, rfl, hZ, hC5, hC1, hX, hgr, hat⟩
  have hz := (hZ.cell (i := 0) (by omega)).1
  have hzf := (hZ.cell (i := 0) (by omega)).2
  have hx := (hX.cell (i := 0) (by omega)).1
  have hyy : w1.cell? ⟨h, 0, none⟩ = some (.int .u64 d) := (World.cell?_of_block (hgr.block h hhl (by simp))).trans HD.out
  have a1 := fun n => addVV_one G g h C c cy (f 0) d _ (w1.drewN n) hz hzf hx hyy
  have hS := ad_eq (f 0) d 0
  have hSl := adS_lt (f 0) d 0
  have HZ := Lib.hid hZ; have HGR := Lib.hid hgr; have HAT := Lib.hid hat
  clear hZ hX hgr hat hz hzf hx hyy
  have HF := Lib.hid (show 0 < f 0 from hf0); have HF1 := Lib.hid (show f 0 < 18446744073709551616 from hf1)
  generalize adC (f 0) d 0 = cr at *
  generalize adS (f 0) d 0 = sr at *
  have HS := Lib.hid hS; have HSL := Lib.hid hSl
  clear hS hSl hf0 hf1
  go_wp2_with fail
  go_region_with (go_at_call 32; refine (a1 1).mono ?_; rintro e w2 ⟨rfl, k, rfl⟩)
  all_goals
    have hB2 : Blk (((w1.drewN 1).setCell ⟨G, 0, none⟩ (.int .u64 sr)).drewN k) G C (upd F 0 sr) := ((HZ.out.drewN 1).set (by omega) sr).drewN k
    have HG2 := Lib.hid (show w1.grownBy (((w1.drewN 1).setCell ⟨G, 0, none⟩ (.int .u64 sr)).drewN k) (some G) from grown_trans (grown_trans (drewN_grown w1 1 _) (setCell_grown _ G 0 _)) (drewN_grown _ k _))
    clear a1
    generalize (((w1.drewN 1).setCell ⟨G, 0, none⟩ (.int .u64 sr)).drewN k) = w2 at *
    have hz1 := (hB2.cell (i := 1) (by omega)).1
    have hz1f := (hB2.cell (i := 1) (by omega)).2
    have hB3 := hB2.set (i := 1) (by omega) cr
    have a2 := norm_any G 2 C _ _ hB3 (by omega) hC1
    have HG3 := Lib.hid (grown_trans HG2.out (setCell_grown w2 G 1 (.int .u64 cr)))
    have HB3 := Lib.hid hB3
    clear hB2 hB3
    go_wp2_with fail
    refine a2.mono ?_
    rintro e w3 ⟨rfl, rfl⟩
    go_wp2
    go_ret
    refine SetPost.mk (v' := .slice (some ⟨G, 0, none⟩) (nw (upd (upd F 0 sr) 1 cr) 2) C) rfl ?_ ?_ ?_
    · have hh := nv_two (base := base) (by rcases HAT.out with e | e <;> omega) HB3.out hC5 hC1 (by rw [upd_ne _ _ (by decide), upd_at]; exact HSL.out) (by rw [upd_at]; have := HS.out; have := HF1.out; have := HY.out.lt; omega)
      rw [upd_at, upd_ne _ _ (by decide), upd_at, HS.out] at hh
      exact hh
    · exact two_grown HGR.out HG3.out HAT.out
    · rcases HAT.out with e | e
      · exact .inl (by rw [own_nw, e])
      · exact .inr ⟨G, rfl, e⟩
end Go.Proofs.YthkobjbemmllfaaGreatDoor
