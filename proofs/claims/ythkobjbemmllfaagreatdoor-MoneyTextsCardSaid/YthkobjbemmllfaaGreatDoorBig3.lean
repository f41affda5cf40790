/- math/big: nat.set, nat.add, nat.cmp, nat.sub on numbers of at most two words, the other of one: walked. -/
import Derived.Test.YthkobjbemmllfaaGreatDoorBig2
namespace Go.Proofs.YthkobjbemmllfaaGreatDoor
open Go.RowKit

theorem ad_eq (x y c : Nat) : adS x y c + 18446744073709551616 * adC x y c = x + y + c := by unfold adS adC; omega
theorem adS_lt (x y c : Nat) : adS x y c < 18446744073709551616 := by unfold adS; omega
theorem sb_eq {x y b : Nat} (hx : x < 18446744073709551616) (hy : y < 18446744073709551616) (hb : b ≤ 1) : sbS x y b + y + b = x + 18446744073709551616 * sbC x y b ∧ sbS x y b < 18446744073709551616 ∧ sbC x y b ≤ 1 := by
  unfold sbS sbC
  split <;> omega

/-- v is the number M, of at most two words, in a block of its own from base on (nought: perhaps none). -/
def Nv (w : World) (base : Nat) (v : Value) (M : Nat) : Prop :=
  (v = .slice none 0 0 ∧ M = 0) ∨ ∃ g n c f, v = .slice (some ⟨g, 0, none⟩) n c ∧ base ≤ g ∧ Blk w g c f ∧ (c = 1 ∨ 5 ≤ c) ∧ c ≤ 100 ∧ n ≤ c ∧
    (n = 0 ∧ M = 0 ∨ n = 1 ∧ M = f 0 ∧ 0 < f 0 ∧ f 0 < 18446744073709551616 ∨ n = 2 ∧ M = f 0 + 18446744073709551616 * f 1 ∧ f 0 < 18446744073709551616 ∧ 0 < f 1 ∧ f 1 < 18446744073709551616)
/-- y is the one word d. -/
structure One (w : World) (h c d : Nat) : Prop where
  blk : ∃ f, Blk w h c f ∧ f 0 = d
  cap : 1 ≤ c
  pos : 0 < d
  lt : d < 18446744073709551616
theorem One.cell {w : World} {h c d : Nat} (o : One w h c d) : w.cell? ⟨h, 0, none⟩ = some (.int .u64 d) ∧ h < w.heap.size := by
  obtain ⟨f, hb, rfl⟩ := o.blk
  exact ⟨(hb.cell (show 0 < c from o.cap)).1, hb.lt⟩

theorem copy_one (ty : TypeId) (g h c cy d : Nat) (u : Value) (w : World) (hu : w.cell? ⟨g, 0, none⟩ = some u) (hf : w.frozen? ⟨g, 0, none⟩ = false) (hd : w.cell? ⟨h, 0, none⟩ = some (.int .u64 d)) :
    (Builtin.copy_ #[44, 44] ty #[.slice (some ⟨g, 0, none⟩) 1 c, .slice (some ⟨h, 0, none⟩) 1 cy]).run Tryz.prog w = .ok (.int .i64 1) (w.setCell ⟨g, 0, none⟩ (.int .u64 d)) :=
  run_copy_cells w 44 44 ty 75 g 0 1 c ⟨h, 0, none⟩ 1 cy [.int .u64 d] Tryz.underlying44 (by kernel_rfl) rfl
    (fun j v hj => by
      match j, hj with
      | 0, hj =>
        obtain rfl := Option.some.inj hj
        exact hd)
    (fun j hj => by
      obtain rfl : j = 0 := by simpa using hj
      rw [hu]; rfl)
    (fun j hj => by
      obtain rfl : j = 0 := by simpa using hj
      exact hf)
    (fun v hv => by simp at hv; subst hv; rfl)

theorem blk_new (w : World) (d : Nat) : Blk (w.alloc (.cells #[.int .u64 d] 75)) w.heap.size 1 (fun _ => d) := by
  refine ⟨_, heap_alloc_new w _, rfl, fun i hi => ?_⟩
  obtain rfl : i = 0 := by omega
  rfl
theorem blk_six (w : World) : Blk (w.alloc (.cells #[.int .u64 0, .int .u64 0, .int .u64 0, .int .u64 0, .int .u64 0, .int .u64 0] 75)) w.heap.size 6 (fun _ => 0) := by
  refine ⟨_, heap_alloc_new w _, rfl, fun i hi => ?_⟩
  obtain rfl | rfl | rfl | rfl | rfl | rfl : i = 0 ∨ i = 1 ∨ i = 2 ∨ i = 3 ∨ i = 4 ∨ i = 5 := by omega
  all_goals rfl
/-- What set leaves: the word in a block of its own. -/
def SetPost (base : Nat) (b : Option Nat) (d : Nat) (w : World) (e : Ending) (w' : World) : Prop :=
  ∃ v', e = .returned v' ∧ Nv w' base v' d ∧ w.grownBy w' b ∧ (v'.ownBlock = b ∨ ∃ k, v'.ownBlock = some k ∧ w.heap.size ≤ k)

set_option maxRecDepth 100000 in
set_option maxHeartbeats 1000000 in
theorem set_any (base h cy d : Nat) (v : Value) (w : World) (hv : Nv w base v 0) (hy : One w h cy d) (hb : base ≤ w.heap.size) : Calls Tryz.prog 77 #[v, .slice (some ⟨h, 0, none⟩) 1 cy] w (SetPost base v.ownBlock d w) := by
  obtain ⟨hd, hhl⟩ := hy.cell
  have hp := hy.pos; have hlt := hy.lt
  have hc0 : v = .slice none 0 0 ∨ ∃ g c f, v = .slice (some ⟨g, 0, none⟩) 0 c ∧ base ≤ g ∧ Blk w g c f ∧ (c = 1 ∨ 5 ≤ c) ∧ c ≤ 100 := by
    rcases hv with ⟨h1, _⟩ | ⟨g, n, c, f, h1, h2, h3, h4, h5, _, h6 | h6 | h6⟩
    · exact .inl h1
    · exact .inr ⟨g, c, f, by rw [h1, h6.1], h2, h3, h4, h5⟩
    · omega
    · omega
  clear hv
  rcases hc0 with rfl | ⟨g, c, f, rfl, hg, hB, hc, hc1⟩
  · have hnew := blk_new w 0
    have hb1 := Below.new w (.cells #[.int .u64 0] 75)
    have kc := fun ty => copy_one ty w.heap.size h 1 cy d _ (w.alloc (.cells #[.int .u64 0] 75)) (hnew.cell (i := 0) (by decide)).1 (hnew.cell (i := 0) (by decide)).2 ((hb1.cell (by exact hhl)).trans hd)
    have HS := Lib.hid (blk_new w d)
    have HG := Lib.hid (World.grownBy_alloc w (.cells #[.int .u64 d] 75) none)
    clear hnew hb1 hd
    go_enter Tryz.func77, Tryz.ntmps77
    go_wp2_with fail
    refine (make_one _).mono ?_
    rintro e w1 ⟨rfl, rfl⟩
    go_wp2
    go_ret
    exact ⟨_, rfl, .inr ⟨w.heap.size, 1, 1, _, rfl, hb, HS.out, .inl rfl, by decide, by decide, .inr (.inl ⟨rfl, rfl, hp, hlt⟩)⟩, HG.out, .inr ⟨_, rfl, Nat.le_refl _⟩⟩
  · have kc := fun ty => copy_one ty g h c cy d _ w (hB.cell (i := 0) (by omega)).1 (hB.cell (i := 0) (by omega)).2 hd
    have HS := Lib.hid (hB.set (i := 0) (by omega) d)
    have a1 := make_fit (some ⟨g, 0, none⟩) 0 c 1 (by omega) (by simp) w
    clear hd hB
    go_enter Tryz.func77, Tryz.ntmps77
    go_wp2_with fail
    refine a1.mono ?_
    rintro e w1 ⟨rfl, rfl⟩
    go_wp2
    go_ret
    exact ⟨_, rfl, .inr ⟨g, 1, c, _, rfl, hg, HS.out, hc, hc1, by omega, .inr (.inl ⟨rfl, rfl, hp, hlt⟩)⟩, setCell_grown w g 0 _, .inl rfl⟩
theorem nv_one {w : World} {base G C : Nat} {F : Nat → Nat} (hg : base ≤ G) (hB : Blk w G C F) (hC : C = 1 ∨ 5 ≤ C) (hC1 : C ≤ 100) (h0 : F 0 < 18446744073709551616) : Nv w base (.slice (some ⟨G, 0, none⟩) (nw F 1) C) (F 0) := by
  refine .inr ⟨G, nw F 1, C, F, rfl, hg, hB, hC, hC1, by have := nw_le F 1; omega, ?_⟩
  rw [nw_succ]
  split
  · rename_i h; exact .inl ⟨rfl, h⟩
  · exact .inr (.inl ⟨rfl, rfl, by omega, h0⟩)
theorem nv_two {w : World} {base G C : Nat} {F : Nat → Nat} (hg : base ≤ G) (hB : Blk w G C F) (hC : 5 ≤ C) (hC1 : C ≤ 100) (h0 : F 0 < 18446744073709551616) (h1 : F 1 < 18446744073709551616) : Nv w base (.slice (some ⟨G, 0, none⟩) (nw F 2) C) (F 0 + 18446744073709551616 * F 1) := by
  rw [nw_succ]
  split
  · rename_i h
    rw [h, Nat.mul_zero, Nat.add_zero]
    exact nv_one hg hB (.inr hC) hC1 h0
  · exact .inr ⟨G, 2, C, F, rfl, hg, hB, .inr hC, hC1, by omega, .inr (.inr ⟨rfl, rfl, h0, by omega, h1⟩)⟩
theorem nv_three {w : World} {base G C : Nat} {F : Nat → Nat} (hg : base ≤ G) (hB : Blk w G C F) (hC : 5 ≤ C) (hC1 : C ≤ 100) (h0 : F 0 < 18446744073709551616) (h1 : F 1 < 18446744073709551616) (h2 : F 2 = 0) : Nv w base (.slice (some ⟨G, 0, none⟩) (nw F 3) C) (F 0 + 18446744073709551616 * F 1) := by
  rw [nw_succ, if_pos h2]
  exact nv_two hg hB hC hC1 h0 h1
theorem own_nw (G n C : Nat) : (Value.slice (some ⟨G, 0, none⟩) n C).ownBlock = some G := rfl
end Go.Proofs.YthkobjbemmllfaaGreatDoor
