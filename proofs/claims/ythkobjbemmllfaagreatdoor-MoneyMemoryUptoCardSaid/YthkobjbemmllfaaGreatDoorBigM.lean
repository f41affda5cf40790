/- math/big: bits.Div with nothing above, divWVW over one word, setWord, divW, nat.div by one word into new memory: walked. -/
import Derived.Test.YthkobjbemmllfaaGreatDoorBigK
namespace Go.Proofs.YthkobjbemmllfaaGreatDoor
open Go.RowKit

theorem div64_low (x y : Nat) (hx : x < 18446744073709551616) (hy : 0 < y) (hy1 : y < 18446744073709551616) (w : World) :
    Calls Tryz.prog 199 #[.int .u64 0, .int .u64 x, .int .u64 y] w fun e w' => e = .returned (.tuple #[.int .u64 ((x / y : Nat) : Int), .int .u64 ((x % y : Nat) : Int)]) ∧ ∃ k, w' = w.drewN k := by
  have q1 : ((y : Int) == 0) = false := by simp; omega
  have q2 : ¬ (y : Int) ≤ 0 := by omega
  have q2n : ¬ y ≤ 0 := by omega
  have q3 : ¬ (y : Int) = 0 := by omega
  have q3n : ¬ y = 0 := by omega
  have e1 : (x : Int).tdiv (y : Int) = ((x / y : Nat) : Int) := Int.ofNat_tdiv x y
  have e2 : (x : Int).tmod (y : Int) = ((x % y : Nat) : Int) := Int.ofNat_tmod x y
  have hq : x / y < 18446744073709551616 := Nat.lt_of_le_of_lt (Nat.div_le_self x y) hx
  have hr : x % y < 18446744073709551616 := Nat.lt_trans (Nat.mod_lt _ hy) hy1
  generalize x / y = q at *
  generalize x % y = r at *
  have e3 : IntKind.u64.wrap ((q : Nat) : Int) = ((q : Nat) : Int) := by rw [IntKind.wrap_u64]; omega
  have e4 : IntKind.u64.wrap ((r : Nat) : Int) = ((r : Nat) : Int) := by rw [IntKind.wrap_u64]; omega
  clear hx hy hy1 hq hr
  go_enter Tryz.func199, Tryz.ntmps199
  go_wp2
  go_quiet (fail)
  go_wp2
  go_ret2
  exact ⟨rfl, _, rfl⟩
theorem div_low (x y : Nat) (hx : x < 18446744073709551616) (hy : 0 < y) (hy1 : y < 18446744073709551616) (w : World) :
    Calls Tryz.prog 179 #[.int .u64 0, .int .u64 x, .int .u64 y] w fun e w' => e = .returned (.tuple #[.int .u64 ((x / y : Nat) : Int), .int .u64 ((x % y : Nat) : Int)]) ∧ ∃ k, w' = w.drewN k := by
  have a1 := div64_low x y hx hy hy1 w
  clear hx hy hy1
  generalize x / y = q at *
  generalize x % y = r at *
  go_enter Tryz.func179, Tryz.ntmps179
  go_wp2_with fail
  refine a1.mono ?_
  clear a1
  rintro e w' ⟨rfl, k, rfl⟩
  go_wp2
  go_ret2
  exact ⟨rfl, _, rfl⟩
set_option maxRecDepth 100000 in
theorem divWVW_one (gz gx cz cx x y : Nat) (u : Value) (w : World) (hz : w.cell? ⟨gz, 0, none⟩ = some u) (hf : w.frozen? ⟨gz, 0, none⟩ = false) (hx : w.cell? ⟨gx, 0, none⟩ = some (.int .u64 x)) (hx1 : x < 18446744073709551616) (hy : 0 < y) (hy1 : y < 18446744073709551616) :
    Calls Tryz.prog 154 #[.slice (some ⟨gz, 0, none⟩) 1 cz, .int .u64 0, .slice (some ⟨gx, 0, none⟩) 1 cx, .int .u64 y] w fun e w' => e = .returned (.int .u64 ((x % y : Nat) : Int)) ∧ ∃ k, w' = (w.drewN k).setCell ⟨gz, 0, none⟩ (.int .u64 ((x / y : Nat) : Int)) := by
  have a1 := div_low x y hx1 hy hy1 w
  clear hx1 hy hy1
  generalize x / y = q at *
  generalize x % y = r at *
  go_enter Tryz.func154, Tryz.ntmps154
  go_wp2_with fail
  refine a1.mono ?_
  clear a1
  rintro e w' ⟨rfl, k, rfl⟩
  go_wp2
  go_ret
  exact ⟨rfl, _, rfl⟩
/-- What a division leaves: the quotient in new memory, and the rest. -/
def DivWPost (base q r : Nat) (w : World) (e : Ending) (w' : World) : Prop :=
  ∃ v, e = .returned (.tuple #[v, .int .u64 r]) ∧ Nv w' base v q ∧ w.grownBy w' none ∧ (v.ownBlock = none ∨ ∃ k, v.ownBlock = some k ∧ w.heap.size ≤ k)
theorem DivWPost.mk {base q r : Nat} {w w' : World} {e : Ending} {v : Value} (h : e = .returned (.tuple #[v, .int .u64 r])) (h1 : Nv w' base v q) (h2 : w.grownBy w' none) (h3 : v.ownBlock = none ∨ ∃ k, v.ownBlock = some k ∧ w.heap.size ≤ k) : DivWPost base q r w e w' := ⟨v, h, h1, h2, h3⟩
set_option maxRecDepth 100000 in
theorem divW_nil (base y : Nat) (hy : 0 < y) (w : World) : Calls Tryz.prog 116 #[.slice none 0 0, .slice none 0 0, .int .u64 y] w (DivWPost base 0 0 w) := by
  have hn : Nv w base (.slice none 0 0) 0 := .inl ⟨rfl, rfl⟩
  have q1 : ((y : Int) == 0) = false := by simp; omega
  by_cases h1 : y = 1
  · subst h1
    have a1 := set_self base 0 _ w hn
    clear q1
    go_enter Tryz.func116, Tryz.ntmps116
    go_wp2_with fail
    refine a1.mono ?_
    clear a1
    rintro e w1 ⟨v', rfl, h1, h2, h3⟩
    have H1 := Lib.hid h1; have H2 := Lib.hid h2; have H3 := Lib.hid h3
    clear h1 h2 h3
    go_wp2
    go_ret2
    exact DivWPost.mk (v := v') rfl H1.out H2.out H3.out
  · have q2 : ((y : Int) == 1) = false := by simp; omega
    clear hy h1
    go_enter Tryz.func116, Tryz.ntmps116
    go_wp2
    go_ret2
    exact DivWPost.mk (v := .slice none 0 0) rfl hn (drewN_grown w 0 _) (.inl rfl)
set_option maxRecDepth 100000 in
theorem divW_one (base h cx x y : Nat) (w : World) (hx : One w h cx x) (hy : 0 < y) (hy1 : y < 18446744073709551616) (hb : base ≤ w.heap.size) :
    Calls Tryz.prog 116 #[.slice none 0 0, .slice (some ⟨h, 0, none⟩) 1 cx, .int .u64 y] w (DivWPost base (x / y) (x % y) w) := by
  have hn : Nv w base (.slice none 0 0) 0 := .inl ⟨rfl, rfl⟩
  have q1 : ((y : Int) == 0) = false := by simp; omega
  by_cases h1 : y = 1
  · subst h1
    rw [Nat.div_one, Nat.mod_one]
    have a1 := set_any base h cx x _ w hn hx hb
    clear q1 hx hy hy1
    go_enter Tryz.func116, Tryz.ntmps116
    go_wp2_with fail
    refine a1.mono ?_
    clear a1
    rintro e w1 ⟨v', rfl, h1, h2, h3⟩
    have H1 := Lib.hid h1; have H2 := Lib.hid h2; have H3 := Lib.hid h3
    clear h1 h2 h3
    go_wp2
    go_ret2
    exact DivWPost.mk (v := v') rfl H1.out H2.out H3.out
  · have q2 : ((y : Int) == 1) = false := by simp; omega
    obtain ⟨hxc, hxl⟩ := hx.cell
    have HD := Lib.hid hxc
    have hcx := hx.cap
    have hx1 := hx.lt
    have HLT := Lib.hid (show x / y < 18446744073709551616 from Nat.lt_of_le_of_lt (Nat.div_le_self x y) hx1)
    clear hx hxc h1 hn
    go_enter Tryz.func116, Tryz.ntmps116
    go_wp2_with fail
    refine (make_one w).mono ?_
    rintro e w1 ⟨rfl, hw1⟩
    have hZ : Blk w1 w.heap.size 1 (fun _ => 0) := by rw [hw1]; exact blk_new w 0
    have hgr : w.grownBy w1 none := by rw [hw1]; exact World.grownBy_alloc w _ none
    clear hw1
    have hxx : w1.cell? ⟨h, 0, none⟩ = some (.int .u64 x) := (World.cell?_of_block (hgr.block h hxl (by simp))).trans HD.out
    have a3 := divWVW_one w.heap.size h 1 cx x y _ w1 (hZ.cell (i := 0) (by decide)).1 (hZ.cell (i := 0) (by decide)).2 hxx hx1 hy hy1
    have HZ := Lib.hid hZ; have HGR := Lib.hid hgr; have HB := Lib.hid hb
    clear hZ hgr hxx hx1 hy hy1 hxl HD hb
    generalize x / y = q at *
    generalize x % y = r at *
    generalize hG : w.heap.size = G at *
    have HG := Lib.hid hG; clear hG
    go_wp2_with fail
    refine a3.mono ?_
    clear a3
    rintro e w2 ⟨rfl, k, hw2⟩
    have hB2 : Blk w2 G 1 (upd (fun _ => 0) 0 q) := by rw [hw2]; exact (HZ.out.drewN k).set (by omega) q
    have HG2 := Lib.hid (show w1.grownBy w2 (some G) by rw [hw2]; exact grown_trans (drewN_grown w1 k _) (setCell_grown _ G 0 _))
    clear hw2
    have a5 := norm_any G 1 1 _ _ hB2 (by omega) (by decide)
    have HB2 := Lib.hid hB2
    clear hB2
    go_wp2_with fail
    refine a5.mono ?_
    clear a5
    rintro e w4 ⟨rfl, rfl⟩
    go_wp2
    go_ret2
    refine DivWPost.mk (v := .slice (some ⟨G, 0, none⟩) (nw (upd (fun _ => 0) 0 q) 1) 1) rfl ?_ ?_ ?_
    · have hh := nv_one (base := base) HB.out HB2.out (.inl rfl) (by decide) (by rw [upd_at]; exact HLT.out)
      rw [upd_at] at hh
      exact hh
    · have h1 := HGR.out; have h2 := HG2.out; have h3 := HG.out
      exact ⟨h2.os.trans h1.os, h2.tape.trans h1.tape, h2.output.trans h1.output, Nat.le_trans h1.size h2.size, fun j hj _ => (h2.block j (Nat.lt_of_lt_of_le hj h1.size) (fun e => by have := Option.some.inj e; omega)).trans (h1.block j hj (by simp))⟩
    · exact .inr ⟨G, rfl, by rw [HG.out]; exact Nat.le_refl _⟩
theorem divW_any (base X y : Nat) (xv : Value) (w : World) (hx : W1 w xv X) (hy : 0 < y) (hy1 : y < 18446744073709551616) (hb : base ≤ w.heap.size) :
    Calls Tryz.prog 116 #[.slice none 0 0, xv, .int .u64 y] w (DivWPost base (X / y) (X % y) w) := by
  rcases hx with ⟨rfl, rfl⟩ | ⟨h, rfl, ox⟩
  · rw [Nat.zero_div, Nat.zero_mod]; exact divW_nil base y hy w
  · exact divW_one base h 1 X y w ox hy hy1 hb

set_option maxRecDepth 100000 in
theorem setWord_any (base d : Nat) (w : World) (hd : d < 18446744073709551616) (hb : base ≤ w.heap.size) : Calls Tryz.prog 117 #[.slice none 0 0, .int .u64 d] w (SetPost base none d w) := by
  by_cases h0 : d = 0
  · subst h0
    go_enter Tryz.func117, Tryz.ntmps117
    go_wp2
    go_ret
    exact ⟨_, rfl, .inl ⟨rfl, rfl⟩, drewN_grown w 0 _, .inl rfl⟩
  · have q1 : ((d : Int) == 0) = false := by simp; omega
    have HD := Lib.hid hd
    have HD0 := Lib.hid (show 0 < d by omega)
    clear h0 hd
    go_enter Tryz.func117, Tryz.ntmps117
    go_wp2_with fail
    refine (make_one w).mono ?_
    rintro e w1 ⟨rfl, hw1⟩
    have hZ : Blk w1 w.heap.size 1 (fun _ => 0) := by rw [hw1]; exact blk_new w 0
    have hgr : w.grownBy w1 none := by rw [hw1]; exact World.grownBy_alloc w _ none
    clear hw1
    have hz := (hZ.cell (i := 0) (by decide)).1
    have hzf := (hZ.cell (i := 0) (by decide)).2
    have HZ := Lib.hid hZ; have HGR := Lib.hid hgr; have HB := Lib.hid hb
    clear hZ hgr hb
    generalize hG : w.heap.size = G at *
    have HG := Lib.hid hG; clear hG
    go_wp2
    go_ret
    refine SetPost.mk (v' := .slice (some ⟨G, 0, none⟩) 1 1) rfl ?_ ?_ ?_
    · exact .inr ⟨G, 1, 1, _, rfl, HB.out, HZ.out.set (by omega) d, .inl rfl, by decide, by decide, .inr (.inl ⟨rfl, by rw [upd_at], by rw [upd_at]; exact HD0.out, by rw [upd_at]; exact HD.out⟩)⟩
    · have h1 := HGR.out; have h3 := HG.out
      exact ⟨h1.os, h1.tape, h1.output, by simp [World.setCell]; exact h1.size, fun j hj _ => (Below.heap_setCell _ _ _ _ (by show j ≠ G; omega)).trans (h1.block j hj (by simp))⟩
    · exact .inr ⟨G, rfl, by rw [HG.out]; exact Nat.le_refl _⟩
end Go.Proofs.YthkobjbemmllfaaGreatDoor
