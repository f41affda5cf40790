/- math/big: set onto itself; add, sub, cmp with nought as the other: walked. -/
import Derived.Test.YthkobjbemmllfaaGreatDoorBigC
namespace Go.Proofs.YthkobjbemmllfaaGreatDoor
open Go.RowKit

theorem copy_self (ty : TypeId) (g c n : Nat) (f : Nat → Nat) (w : World) (hB : Blk w g c f) (hn : n ≤ c) :
    (Builtin.copy_ #[46, 46] ty #[.slice (some ⟨g, 0, none⟩) n c, .slice (some ⟨g, 0, none⟩) n c]).run Tryz.prog w = .ok (.int .i64 n) (w.setCells g 0 ((List.range n).map fun i => .int .u64 (f i))) := by
  have h := run_copy_cells (P := Tryz.prog) w 46 46 ty 66 g 0 n c ⟨g, 0, none⟩ n c ((List.range n).map fun i => .int .u64 (f i)) Tryz.underlying46 (by kernel_rfl) (by simp)
    (fun j v hj => by
      simp only [List.getElem?_map, Option.map_eq_some_iff] at hj
      obtain ⟨a, ha, rfl⟩ := hj
      have hjn : j < n := by
        rcases Nat.lt_or_ge j n with h | h
        · exact h
        · rw [List.getElem?_eq_none (by simpa using h)] at ha; cases ha
      rw [List.getElem?_range hjn] at ha
      obtain rfl := Option.some.inj ha
      rw [show (⟨g, 0, none⟩ : Addr).add j = ⟨g, j, none⟩ from by simp [Addr.add]; exact fun h => h.symm]
      exact (hB.cell (by omega)).1)
    (fun j hj => by
      have hj : j < n := by simpa using hj
      rw [Nat.zero_add, (hB.cell (show j < c by omega)).1]; rfl)
    (fun j hj => by
      have hj : j < n := by simpa using hj
      rw [Nat.zero_add]
      exact (hB.cell (show j < c by omega)).2)
    (fun v hv => by
      simp only [List.mem_map] at hv
      obtain ⟨a, _, rfl⟩ := hv
      rfl)
  rw [h]
  simp [goInt]
theorem setCells_blk {w : World} {g c : Nat} {f : Nat → Nat} (hB : Blk w g c f) (n : Nat) (hn : n ≤ 2) : Blk (w.setCells g 0 ((List.range n).map fun i => .int .u64 (f i))) g c f ∧ w.grownBy (w.setCells g 0 ((List.range n).map fun i => .int .u64 (f i))) (some g) := by
  have k : ∀ (w : World) (i : Nat), Blk w g c f → Blk (w.setCell ⟨g, i, none⟩ (.int .u64 (f i))) g c f := fun w i h => by
    obtain ⟨cur, h1, h2, h3⟩ := h
    refine ⟨cur.setIfInBounds i (.int .u64 (f i)), ?_, by rw [Array.size_setIfInBounds]; exact h2, fun j hj => ?_⟩
    · show (w.heap.modify g _)[g]? = _
      rw [Array.getElem?_modify, if_pos rfl, h1]
      rfl
    · by_cases e : j = i
      · subst e; rw [Array.getElem?_setIfInBounds_self_of_lt (by omega)]
      · rw [Array.getElem?_setIfInBounds_ne (Ne.symm e)]; exact h3 j hj
  obtain rfl | rfl | rfl : n = 0 ∨ n = 1 ∨ n = 2 := by omega
  · exact ⟨hB, drewN_grown w 0 _⟩
  · exact ⟨k w 0 hB, setCell_grown w g 0 _⟩
  · exact ⟨k _ 1 (k w 0 hB), grown_trans (setCell_grown w g 0 _) (setCell_grown _ g 1 _)⟩

set_option maxRecDepth 100000 in
set_option maxHeartbeats 1000000 in
theorem set_self (base M : Nat) (v : Value) (w : World) (hv : Nv w base v M) : Calls Tryz.prog 66 #[v, v] w (SetPost base v.ownBlock M w) := by
  rcases hv with ⟨rfl, rfl⟩ | ⟨g, n, c, f, rfl, hg, hB, hc, hc1, hn, hM⟩
  · have kc := fun ty => run_copy_none (P := Tryz.prog) w 46 46 ty 66 none none 0 0 0 0 Tryz.underlying46 (by kernel_rfl) (by decide)
    go_enter Tryz.func66, Tryz.ntmps66
    go_wp2
    go_ret
    exact ⟨_, rfl, .inl ⟨rfl, rfl⟩, drewN_grown w 0 _, .inl rfl⟩
  · have hn2 : n ≤ 2 := by omega
    have kc := fun ty => copy_self ty g c n f w hB hn
    obtain ⟨b1, b2⟩ := setCells_blk hB n hn2
    have B1 := Lib.hid b1; have B2 := Lib.hid b2; have HM := Lib.hid hM; have HC := Lib.hid hc
    have a1 := make_fit (some ⟨g, 0, none⟩) n c n hn (by simp) w
    clear b1 b2 hB hM hc
    generalize w.setCells g 0 ((List.range n).map fun i => .int .u64 (f i)) = w1 at *
    go_enter Tryz.func66, Tryz.ntmps66
    go_wp2_with fail
    refine a1.mono ?_
    rintro e w2 ⟨rfl, rfl⟩
    go_wp2
    go_ret
    exact ⟨_, rfl, .inr ⟨g, n, c, f, rfl, hg, B1.out, HC.out, hc1, hn, HM.out⟩, B2.out, .inl rfl⟩
theorem Nv.slice {w : World} {base M : Nat} {v : Value} (h : Nv w base v M) : ∃ A n c, v = .slice A n c ∧ (n = 0 ↔ M = 0) ∧ (n = 0 → Nv w base (.slice A 0 c) 0) ∧ n ≤ 2 ∧ n ≤ c := by
  rcases h with ⟨rfl, rfl⟩ | ⟨g, n, c, f, rfl, hg, hB, hc, hc1, hn, ⟨rfl, rfl⟩ | ⟨rfl, rfl, h3, h4⟩ | ⟨rfl, rfl, h3, h4, h5⟩⟩
  · exact ⟨_, 0, _, rfl, by simp, fun _ => .inl ⟨rfl, rfl⟩, by decide, by decide⟩
  · exact ⟨_, 0, _, rfl, by simp, fun _ => .inr ⟨g, 0, c, f, rfl, hg, hB, hc, hc1, hn, .inl ⟨rfl, rfl⟩⟩, by decide, hn⟩
  · exact ⟨_, 1, _, rfl, by omega, (fun h => by cases h), by decide, hn⟩
  · exact ⟨_, 2, _, rfl, by omega, (fun h => by cases h), by decide, hn⟩
set_option maxRecDepth 100000 in
theorem add_nil (base M : Nat) (v : Value) (w : World) (hv : Nv w base v M) : Calls Tryz.prog 48 #[v, v, .slice none 0 0] w (SetPost base v.ownBlock M w) := by
  have a1 := set_self base M v w hv
  obtain ⟨A, n, c, rfl, h0, hz, hn2, hnc⟩ := hv.slice
  cases n with
  | zero =>
    have hz2 := hz rfl
    obtain rfl := h0.1 rfl
    clear hv h0 a1 hz
    go_enter Tryz.func48, Tryz.ntmps48
    go_wp2
    go_ret
    exact ⟨_, rfl, hz2, drewN_grown w 0 _, .inl rfl⟩
  | succ n =>
    have q1 : ((n : Int) + 1 == 0) = false := by simp; omega
    have q2 : ¬ (n : Int) + 1 < 0 := by omega
    clear hv h0 hz hn2 hnc
    go_enter Tryz.func48, Tryz.ntmps48
    go_wp2_with fail
    refine a1.mono ?_
    rintro e w1 ⟨v', rfl, h1, h2, h3⟩
    have H1 := Lib.hid h1; have H2 := Lib.hid h2; have H3 := Lib.hid h3
    clear h1 h2 h3 a1
    go_wp2
    go_ret
    exact ⟨_, rfl, H1.out, H2.out, H3.out⟩
set_option maxRecDepth 100000 in
theorem sub_nil (base M : Nat) (v : Value) (w : World) (hv : Nv w base v M) : Calls Tryz.prog 50 #[v, v, .slice none 0 0] w (SetPost base v.ownBlock M w) := by
  have a1 := set_self base M v w hv
  obtain ⟨A, n, c, rfl, h0, hz, hn2, hnc⟩ := hv.slice
  cases n with
  | zero =>
    have hz2 := hz rfl
    obtain rfl := h0.1 rfl
    clear hv h0 a1 hz
    go_enter Tryz.func50, Tryz.ntmps50
    go_wp2
    go_ret
    exact ⟨_, rfl, hz2, drewN_grown w 0 _, .inl rfl⟩
  | succ n =>
    have q1 : ((n : Int) + 1 == 0) = false := by simp; omega
    have q2 : ¬ (n : Int) + 1 < 0 := by omega
    clear hv h0 hz hn2 hnc
    go_enter Tryz.func50, Tryz.ntmps50
    go_wp2_with fail
    refine a1.mono ?_
    rintro e w1 ⟨v', rfl, h1, h2, h3⟩
    have H1 := Lib.hid h1; have H2 := Lib.hid h2; have H3 := Lib.hid h3
    clear h1 h2 h3 a1
    go_wp2
    go_ret
    exact ⟨_, rfl, H1.out, H2.out, H3.out⟩
set_option maxRecDepth 100000 in
theorem cmp_many_nil (A : Option Addr) (n c : Nat) (w : World) : Calls Tryz.prog 49 #[.slice A (n + 1) c, .slice none 0 0] w fun e w' => e = .returned (.int .i64 1) ∧ w' = w := by
  have q1 : ((n : Int) + 1 == 0) = false := by simp; omega
  have q2 : ¬ (n : Int) + 1 < 0 := by omega
  have q3 : (0 : Int) < (n : Int) + 1 := by omega
  have q4 : ((n : Int) + 1 != 0) = true := by simp; omega
  go_enter Tryz.func49, Tryz.ntmps49
  go_wp2
  go_ret
  exact ⟨rfl, rfl⟩
set_option maxRecDepth 100000 in
theorem cmp_nil_nil (w : World) : Calls Tryz.prog 49 #[.slice none 0 0, .slice none 0 0] w fun e w' => e = .returned (.int .i64 0) ∧ w' = w := by
  go_enter Tryz.func49, Tryz.ntmps49
  go_wp2
  go_ret
  exact ⟨rfl, rfl⟩
end Go.Proofs.YthkobjbemmllfaaGreatDoor
