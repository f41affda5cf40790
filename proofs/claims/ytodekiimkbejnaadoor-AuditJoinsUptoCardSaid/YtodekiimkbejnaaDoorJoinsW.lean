/- AuditJoins: walked. -/
import Derived.Test.YtodekiimkbejnaaDoorJoinsV
import Derived.Handy
import Derived.WalkLawsBesides
import Derived.Deep.QuietTactic
import Derived.BigQuiet
namespace Go.Proofs.YtodekiimkbejnaaDoor
open Go.RowKit Go.WideMaps Go.Maps Go.Sort

set_option maxRecDepth 100000 in
set_option maxHeartbeats 4000000 in
theorem joins_walk (Bf : Nat → Addr) (A1 : Option Addr) (n1 c1 : Nat) (ps1 : Nat → PostV) (A2 : Option Addr) (n2 c2 : Nat) (ps2 : Nat → PostV) (w : World) (hE : Env w Bf) (hP1 : PostsAt w A1 n1 ps1) (hP2 : PostsAt w A2 n2 ps2)
    (hn1 : n1 ≤ 1048576) (hn2 : n2 ≤ 1048576) (hl1 : ∀ i, i < n1 → (ps1 i).n ≤ 1048576) (hl2 : ∀ i, i < n2 → (ps2 i).n ≤ 1048576) :
    Calls Tryd.prog 3 #[.slice A1 n1 c1, .slice A2 n2 c2] w fun e w' => e = .returned (.bool true) ∧ Below w.heap.size w w' := by
  have HE := Lib.hid (fun w' (hb : Below w.heap.size w w') => hE.below hb)
  have HP1 := Lib.hid (fun w' (hb : Below w.heap.size w w') => hP1.below hb)
  have HP2 := Lib.hid (fun w' (hb : Below w.heap.size w w') => hP2.below hb)
  have HL1 := Lib.hid hl1
  have HL2 := Lib.hid hl2
  have a0 := lives_any Bf w hE
  clear hE hP1 hP2 hl1 hl2
  go_enter Tryd.func3, Tryd.ntmps3
  go_wp2_with fail
  refine a0.mono ?_
  clear a0
  rintro e w1 ⟨rfl, hb1⟩
  have HB1 := Lib.hid hb1
  have a1 := copies_any A1 n1 c1 ps1 w1 (HP1.out _ hb1) (by omega) (fun i hi => by have := HL1.out i hi; omega)
  clear hb1
  go_wp2_with fail
  refine a1.mono ?_
  clear a1
  rintro e w2 ⟨v, qs1, rfl, hC⟩
  have HB2 := Lib.hid (HB1.out.trans (hC.bel.mono HB1.out.size))
  obtain ⟨Ax, cx, rfl, hPx⟩ := hC.posts (HP1.out _ HB1.out)
  have a2 := replay_any Bf Ax n1 cx qs1 w2 (HE.out _ HB2.out) hPx (by omega)
  rw [postsR_alike n1 hC.alike] at a2
  clear hC hPx
  go_wp2_with fail
  refine a2.mono ?_
  clear a2
  rintro e w3 hr
  obtain ⟨hb3, x, ex, rfl, hx⟩ := hr.two
  have HB3 := Lib.hid (HB2.out.trans (hb3.mono HB2.out.size))
  have HX := Lib.hid hx
  clear hr hb3 hx
  have a3 := copies_any A2 n2 c2 ps2 w3 (HP2.out _ HB3.out) (by omega) (fun i hi => by have := HL2.out i hi; omega)
  go_wp2_with fail
  refine a3.mono ?_
  clear a3
  rintro e w4 ⟨v, qs2, rfl, hC⟩
  have HB4 := Lib.hid (HB3.out.trans (hC.bel.mono HB3.out.size))
  obtain ⟨Ay, cy, rfl, hPy⟩ := hC.posts (HP2.out _ HB3.out)
  have a4 := replay_any Bf Ay n2 cy qs2 w4 (HE.out _ HB4.out) hPy (by omega)
  rw [postsR_alike n2 hC.alike] at a4
  have HX4 := Lib.hid (HX.out.below hC.bel)
  clear hC hPy HX
  go_wp2_with fail
  refine a4.mono ?_
  clear a4
  rintro e w5 hr
  obtain ⟨hb5, y, ey, rfl, hy⟩ := hr.two
  have HB5 := Lib.hid (HB4.out.trans (hb5.mono HB4.out.size))
  have HX5 := Lib.hid (HX4.out.below hb5)
  have HY5 := Lib.hid hy
  clear hr hb5 hy HX4
  have a5 := copies_any A1 n1 c1 ps1 w5 (HP1.out _ HB5.out) (by omega) (fun i hi => by have := HL1.out i hi; omega)
  go_wp2_with fail
  refine a5.mono ?_
  clear a5
  rintro e w6 ⟨v1, rs1, rfl, hC1⟩
  have HB6 := Lib.hid (HB5.out.trans (hC1.bel.mono HB5.out.size))
  have a6 := copies_any A2 n2 c2 ps2 w6 (HP2.out _ HB6.out) (by omega) (fun i hi => by have := HL2.out i hi; omega)
  have HC1 := Lib.hid hC1
  clear hC1
  go_wp2_with fail
  refine a6.mono ?_
  clear a6
  rintro e w7 ⟨v2, rs2, rfl, hC2⟩
  have HB7 := Lib.hid (HB6.out.trans (hC2.bel.mono HB6.out.size))
  have HX7 := Lib.hid ((HX5.out.below HC1.out.bel).below hC2.bel)
  have HY7 := Lib.hid ((HY5.out.below HC1.out.bel).below hC2.bel)
  obtain ⟨i0, hi0, hz0, hz1, hz2⟩ := info36'
  have hown1 : w7.ownsRow w5.heap.size 36 4 v1 n1 (postsL rs1 n1) := ownsRow_of_block HC1.out.own fun g e => hC2.bel.block g (HC1.out.own.lt g e).2
  have hown2 := hC2.own
  have hbase : w5.heap.size ≤ w7.heap.size := Nat.le_trans HC1.out.bel.size hC2.bel.size
  have HC2 := Lib.hid hC2
  have hone := postsL_one rs2 n2
  clear hC2
  generalize hxs : postsL rs1 n1 = xs at *
  generalize hys : postsL rs2 n2 = ys at *
  have HXS := Lib.hid hxs; have HYS := Lib.hid hys
  clear hxs hys
  go_wp2_with (at_builtin; refine wpList_append_rows rfl _ _ 22 rfl w5.heap.size 36 i0 _ 4 64 Tryd.underlying22 hi0 hz0 hz1 hz2 rfl (by decide) v1 n1 xs rfl hown1 w6.heap.size v2 n2 ys rfl hown2 hone (by unfold maxLen; omega) (by omega) hbase ?_; intro v' w8 ho8 hg8 hat8)
  obtain ⟨Az, cz, rfl, hPz⟩ := joined_posts HC1.out HC2.out rfl (HP1.out _ HB5.out) (HP2.out _ HB6.out) (by rw [HXS.out, HYS.out]; exact ho8) hg8
  have hb58 : Below w5.heap.size w5 w8 := (HC1.out.bel.trans (HC2.out.bel.mono HC1.out.bel.size)).grown hg8 hbase fun k e => (HC1.out.own.lt k e).1
  have HB8 := Lib.hid (HB5.out.trans (hb58.mono HB5.out.size))
  have HX8 := Lib.hid (HX5.out.below hb58)
  have HY8 := Lib.hid (HY5.out.below hb58)
  have hj1 : postsR (join n1 rs1 rs2) n1 = postsR ps1 n1 := postsR_alike n1 (join_left HC1.out.alike)
  have HST := Lib.hid (show (postsR ps1 n1).1 ≠ 0 → (postsR (join n1 rs1 rs2) (n1 + n2)).1 ≠ 0 from fun h => joined_stays (by rw [hj1]; exact h))
  have HBO := Lib.hid (show (postsR (join n1 rs1 rs2) (n1 + n2)).1 = 0 → (postsR ps2 n2).1 = 0 → Both (postsR ps1 n1).2 (postsR (join n1 rs1 rs2) (n1 + n2)).2 (postsR ps2 n2).2 from fun h1 h2 => by
    have := joined_both n2 (join_right HC2.out.alike) h1 h2
    rw [hj1] at this; exact this)
  have HGX := Lib.hid (fun h : (postsR ps1 n1).1 = 0 => (show Good (postsR ps1 n1).2 ∧ KeysLe (postsR ps1 n1).2 ∧ (sortedKeys (postsR ps1 n1).2).length ≤ 16777216 from
    ⟨postsR_good _ h, postsR_keys _ (legs_sizes (HP1.out _ (Below.refl _ _))) h, by have := sortedKeys_le h; omega⟩))
  have HGY := Lib.hid (fun h : (postsR ps2 n2).1 = 0 => (show Good (postsR ps2 n2).2 ∧ KeysLe (postsR ps2 n2).2 ∧ (sortedKeys (postsR ps2 n2).2).length ≤ 16777216 from
    ⟨postsR_good _ h, postsR_keys _ (legs_sizes (HP2.out _ (Below.refl _ _))) h, by have := sortedKeys_le h; omega⟩))
  have HGZ := Lib.hid (fun h : (postsR (join n1 rs1 rs2) (n1 + n2)).1 = 0 => (show Good (postsR (join n1 rs1 rs2) (n1 + n2)).2 ∧ KeysLe (postsR (join n1 rs1 rs2) (n1 + n2)).2 ∧ (sortedKeys (postsR (join n1 rs1 rs2) (n1 + n2)).2).length ≤ 16777216 from
    ⟨postsR_good _ h, postsR_keys _ (legs_sizes hPz) h, by have := sortedKeys_le h; omega⟩))
  have a7 := replay_any Bf Az (n1 + n2) cz (join n1 rs1 rs2) w8 (HE.out _ HB8.out) hPz (by omega)
  clear hPz hb58 hj1 ho8 hg8 hat8 hown1 hown2 hone hbase HX5 HY5 HX7 HY7 HC1 HC2 HXS HYS
  generalize postsR (join n1 rs1 rs2) (n1 + n2) = rz at *
  generalize postsR ps1 n1 = rx at *
  generalize postsR ps2 n2 = ry at *
  go_wp2_with fail
  refine a7.mono ?_
  clear a7
  rintro e w9 hr
  obtain ⟨hb9, z, ez, rfl, hz⟩ := hr.two
  have HB9 := Lib.hid (HB8.out.trans (hb9.mono HB8.out.size))
  have HX9 := Lib.hid (HX8.out.below hb9)
  have HY9 := Lib.hid (HY8.out.below hb9)
  have HZ9 := Lib.hid hz
  clear hr hb9 hz HX8 HY8
  rcases HX9.out with ⟨x0, rfl, hx⟩ | ⟨x0, rfl, p, rfl⟩
  case inr =>
    rcases HZ9.out with ⟨z0, _, _⟩ | ⟨z0, rfl, q, rfl⟩
    · exact absurd z0 (HST.out x0)
    clear x0 z0
    go_wp2
    go_ret
    exact ⟨rfl, HB9.out⟩
  case inl =>
  rcases HY9.out with ⟨y0, rfl, hy⟩ | ⟨y0, rfl, p, rfl⟩
  case inr =>
    clear x0 y0 hx
    go_wp2
    go_ret
    exact ⟨rfl, HB9.out⟩
  case inl =>
  rcases HZ9.out with ⟨z0, rfl, hz⟩ | ⟨z0, rfl, p, rfl⟩
  case inr =>
    clear x0 y0 z0 hx hy
    go_wp2
    go_ret
    exact ⟨rfl, HB9.out⟩
  case inl =>
  obtain ⟨gx, kx, lx⟩ := HGX.out x0
  obtain ⟨gy, ky, ly⟩ := HGY.out y0
  obtain ⟨gz, kz, lz⟩ := HGZ.out z0
  have HB := Lib.hid (HBO.out z0 y0)
  obtain ⟨Ax, cx', rfl, hlx, hax⟩ := legs_of_row hx gx kx
  obtain ⟨Ay, cy', rfl, hly, hay⟩ := legs_of_row hy gy ky
  obtain ⟨Az, cz', rfl, hlz, haz⟩ := legs_of_row hz gz kz
  have HRX := Lib.hid hx; have HRY := Lib.hid hy
  have HKX := Lib.hid kx; have HKY := Lib.hid ky; have HKZ := Lib.hid kz
  have HGX := Lib.hid gx; have HGY := Lib.hid gy; have HGZ := Lib.hid gz
  clear x0 y0 z0 hx hy hz HX9 HY9 HZ9 gx gy gz kx ky kz
  go_wp2
  go_loopw [67, 11, 12, 13, 14, 15, 16] (fun vi _ _ _ _ _ _ wr => ∃ k : Nat, vi = .int .i64 k ∧ k ≤ (sortedKeys rz.2).length ∧ Hid (Below w9.heap.size w9 wr)) (fun vi _ _ _ _ _ _ _ => (sortedKeys rz.2).length - (intOf vi).toNat)
  case atStart => exact ⟨0, rfl, Nat.zero_le _, Lib.hid (Below.refl _ _)⟩
  case round =>
    obtain ⟨k, rfl, hk, hh⟩ := hrel
    have hw := hh.out
    have hsz := hw.size
    by_cases h : k < (sortedKeys rz.2).length
    · have hlr := hlz.below (fun _ a e => by obtain ⟨g, rfl, _, h2⟩ := haz a e; exact h2) hw
      obtain ⟨gz, oz, rfl, hgz, hc⟩ := hlr (by omega)
      obtain ⟨c0, c1, hok⟩ := hc k h
      have hnb := Below.new wr (.cells #[.string (repLegs rz.2 k).a, .int .i64 (repLegs rz.2 k).x] 31)
      have hbx := heap_alloc_new wr (.cells #[.string (repLegs rz.2 k).a, .int .i64 (repLegs rz.2 k).x] 31)
      have hzx : (wr.alloc (.cells #[.string (repLegs rz.2 k).a, .int .i64 (repLegs rz.2 k).x] 31)).heap.size = wr.heap.size + 1 := by simp
      have hw2 := hw.trans (hnb.mono hsz)
      have b1 := amount_of Ax cx' rx.2 (repLegs rz.2 k).a _ HGX.out (hlx.below (fun _ a e => by obtain ⟨g, rfl, _, h2⟩ := hax a e; exact h2) hw2) (fun a e => by obtain ⟨g, rfl, _, h2⟩ := hax a e; have := hw2.size; show g < _; omega) lx
      have q0 : (wr.alloc (.cells #[.string (repLegs rz.2 k).a, .int .i64 (repLegs rz.2 k).x] 31)).cell? ⟨wr.heap.size, 0, none⟩ = some (.string (repLegs rz.2 k).a) := by unfold World.cell?; rw [hbx]; rfl
      obtain ⟨hrep, hhas⟩ := repLegs_at HGZ.out k h
      have hnum := HB.out.num (kl (repLegs rz.2 k).a)
      have hkey := HB.out.key (kl (repLegs rz.2 k).a)
      have hxb := HGZ.out.lim (kl (repLegs rz.2 k).a)
      rw [← hrep] at hnum hxb
      rw [hhas] at hkey
      have hlx2 := HGX.out.lim (kl (repLegs rz.2 k).a)
      have hly2 := HGY.out.lim (kl (repLegs rz.2 k).a)
      have HPREV := Lib.hid (fun j (hj : j < k) => (show wr.cell? ⟨gz, oz + j * 2, none⟩ = some (.string (repLegs rz.2 j).a) ∧ Op.bytesLess (repLegs rz.2 j).a.toList (repLegs rz.2 k).a.toList = true from
        ⟨(hc j (by omega)).1, repLegs_lt HGZ.out hj h⟩))
      have B2 := Lib.hid (fun w' (hb : Below wr.heap.size wr w') => amount_of Ay cy' ry.2 (repLegs rz.2 k).a w' HGY.out (hly.below (fun _ a e => by obtain ⟨g, rfl, _, h2⟩ := hay a e; exact h2) (hw.trans (hb.mono hsz))) (fun a e => by obtain ⟨g, rfl, _, h2⟩ := hay a e; have := hb.size; show g < _; omega) ly)
      generalize hgt : (repLegs rz.2 k).a = t at *
      generalize hgx : (repLegs rz.2 k).x = x at *
      generalize numAt rx.2 (kl t) = p at *
      generalize numAt ry.2 (kl t) = q at *
      generalize has rx.2 (kl t) = f1 at *
      generalize has ry.2 (kl t) = f2 at *
      have HNB := Lib.hid hnb; have HBX := Lib.hid hbx; have HW := Lib.hid hw; have HW2 := Lib.hid hw2
      have HKEY := Lib.hid hkey; have HNUM := Lib.hid hnum
      have HZX := Lib.hid hzx
      clear hlr hc hnb hbx hw hw2 hrep hhas hnum hkey hgt hgx hh hok hzx
      go_wp2_with fail
      refine b1.mono ?_
      clear b1
      rintro e w10 ⟨rfl, hb⟩
      have hbb := HNB.out.trans (hb.mono HNB.out.size)
      have hbx1 := (hb.block wr.heap.size (by have := HZX.out; omega)).trans HBX.out
      have q1 : w10.cell? ⟨wr.heap.size, 0, none⟩ = some (.string t) := by unfold World.cell?; rw [hbx1]; rfl
      have b2 := B2.out w10 hbb
      have HB10 := Lib.hid hbb; have HBX1 := Lib.hid hbx1
      have HZ10 := Lib.hid (show wr.heap.size < w10.heap.size by have := HZX.out; have := hb.size; omega)
      clear hb hbb hbx1 q0 B2
      go_wp2_with fail
      refine b2.mono ?_
      clear b2 q1
      rintro e w11 ⟨rfl, hb⟩
      have hbb := HB10.out.trans (hb.mono HB10.out.size)
      have hbx1 := (hb.block wr.heap.size HZ10.out).trans HBX1.out
      have q1 : w11.cell? ⟨wr.heap.size, 0, none⟩ = some (.string t) := by unfold World.cell?; rw [hbx1]; rfl
      have q2 : w11.cell? ⟨wr.heap.size, 1, none⟩ = some (.int .i64 x) := by unfold World.cell?; rw [hbx1]; rfl
      have HPREV2 := Lib.hid (fun j (hj : j < k) => (show w11.cell? ⟨gz, oz + j * 2, none⟩ = some (.string (repLegs rz.2 j).a) from (hbb.cell (by exact hgz)).trans (HPREV.out j hj).1))
      have HB11 := Lib.hid (HW.out.trans (hbb.mono HW.out.size))
      clear hb hbb hbx1 c0 c1
      have hsum : IntKind.i64.wrap (p + q) = x := by
        have := HNUM.out
        rw [IntWalk.i64_in _ (by omega)]; omega
      go_wp2
      have hfin : ∀ w', w' = w11.drew → True := fun _ _ => trivial
      have hpos : k = 0 ∨ ∃ j, k = j + 1 := by
        rcases Nat.eq_zero_or_pos k with h | h
        · exact .inl h
        · exact .inr ⟨k - 1, by omega⟩
      have HD := Lib.hid (below_drewN HB11.out)
      rcases hpos with h0 | ⟨j, hj⟩
      · have g1 : decide ((0 : Int) < (k : Int)) = false := decide_eq_false (by omega)
        have g2 : decide (0 < k) = false := decide_eq_false (by omega)
        clear h0 HPREV HPREV2
        cases f1 with
        | true =>
          clear HKEY
          go_quiet (fail)
          go_wp2
          exact ⟨⟨k + 1, by go_num, by omega, Lib.hid (HD.out nq)⟩, by simp [intOf]; omega⟩
        | false =>
          obtain rfl : f2 = true := by have := HKEY.out; simpa using this.symm
          clear HKEY
          go_quiet (fail)
          go_wp2
          exact ⟨⟨k + 1, by go_num, by omega, Lib.hid (HD.out nq)⟩, by simp [intOf]; omega⟩
      · have g1 : decide ((0 : Int) < (k : Int)) = true := decide_eq_true (by omega)
        have g2 : decide (0 < k) = true := decide_eq_true (by omega)
        have q3 := HPREV2.out j (by omega)
        have q4 := (HPREV.out j (by omega)).2
        have g3 : IntKind.i64.wrap ((k : Int) - 1) = (j : Int) := by rw [IntWalk.i64_in _ (by omega)]; omega
        have g4 : (0 : Int) ≤ (j : Int) := by omega
        have g5 : (j : Int) < ((sortedKeys rz.2).length : Int) := by omega
        have HJ := Lib.hid hj
        clear hj HPREV HPREV2
        cases f1 with
        | true =>
          clear HKEY
          go_quiet (fail)
          go_wp2
          exact ⟨⟨k + 1, by go_num, by omega, Lib.hid (HD.out nq)⟩, by simp [intOf]; omega⟩
        | false =>
          obtain rfl : f2 = true := by have := HKEY.out; simpa using this.symm
          clear HKEY
          go_quiet (fail)
          go_wp2
          exact ⟨⟨k + 1, by go_num, by omega, Lib.hid (HD.out nq)⟩, by simp [intOf]; omega⟩
    · have ek : k = (sortedKeys rz.2).length := by omega
      subst ek
      have HW := Lib.hid hw
      obtain ⟨i1, ji0, jz0, jz1, jz2⟩ := info31'
      have hnb := Below.new wr (.cells #[] 31)
      have hbx := heap_alloc_new wr (.cells #[] 31)
      have hwn := hw.trans (hnb.mono hsz)
      have hownx := ownsRow_of_block HRX.out fun g e => hwn.block g (HRX.out.lt g e).2
      have hown0 : (wr.alloc (.cells #[] 31)).ownsRow wr.heap.size 31 2 (.slice (some ⟨wr.heap.size, 0, none⟩) 0 0) 0 [] := ⟨rfl, .inr ⟨_, 0, #[], rfl, Nat.le_refl _, hbx, Nat.le_refl _, Nat.zero_le _, rfl, rfl⟩⟩
      have hone := legCells_one rx.2 (sortedKeys rx.2)
      have hone2 := legCells_one ry.2 (sortedKeys ry.2)
      have HWN := Lib.hid hwn
      have HNB := Lib.hid hnb
      have hz1 : (wr.alloc (.cells #[] 31)).heap.size = wr.heap.size + 1 := by simp
      have HZ1 := Lib.hid hz1
      clear hh hw hwn hnb hbx hz1 hk h
      go_wp2_with (first
        | (at_builtin; refine wpList_append_rows rfl _ _ 24 rfl wr.heap.size 31 i1 _ 2 24 Tryd.underlying24 ji0 jz0 jz1 jz2 rfl (by decide) _ 0 [] rfl hown0 _ _ _ _ rfl hownx hone (by unfold maxLen; omega) (by omega) (by simp) ?_; intro v12 w12 ho12 hg12 hat12; simp only [Nat.zero_add, List.nil_append] at ho12; have hb12 : Below w9.heap.size w9 w12 := HWN.out.grown hg12 (by have := HZ1.out; omega) (fun g e => by have := Option.some.inj (show some wr.heap.size = some g from e); omega); have hown12 := ownsRow_of_block HRY.out fun g e => hb12.block g (HRY.out.lt g e).2; have hbs12 : wr.heap.size ≤ w12.heap.size := (by have := hg12.size; have := HZ1.out; omega); have hv12 := ho12.lt; clear hown0 hownx hg12 hat12)
        | (at_builtin; refine wpList_append_rows rfl _ _ 24 rfl wr.heap.size 31 i1 _ 2 24 Tryd.underlying24 ji0 jz0 jz1 jz2 rfl (by decide) _ _ _ rfl ho12 _ _ _ _ rfl hown12 hone2 (by unfold maxLen; omega) (by omega) hbs12 ?_; intro v13 w13 ho13 hg13 hat13; have hb13 : Below w9.heap.size w9 w13 := hb12.grown hg13 (by omega) (fun g e => by have := (hv12 g e).1; omega); obtain ⟨Aj, cj, rfl, hlj, haj⟩ := legs_of_rows ho13 HGX.out HKX.out HGY.out HKY.out; have HB13 := Lib.hid hb13; have HJH := Lib.hid (fun i (hi : i < (sortedKeys rx.2).length + (sortedKeys ry.2).length) => jlegs_has HB.out HGX.out HGY.out i hi); generalize hnj : (sortedKeys rx.2).length + (sortedKeys ry.2).length = nj at *; have hnjb : nj ≤ 33554432 := (by omega); clear hnj; clear ho12 hown12 ho13 hg13 hat13 hb12 hb13 hone hone2 hv12))
      obtain ⟨wo, rfl⟩ : ∃ wo : World, wo = wr := ⟨_, rfl⟩
      go_loopw [122, 18, 19, 20] (fun vi _ _ _ wr => ∃ k : Nat, vi = .int .i64 k ∧ k ≤ nj ∧ Hid (Below w13.heap.size w13 wr)) (fun vi _ _ _ _ => nj - (intOf vi).toNat)
      case atStart => exact ⟨0, rfl, Nat.zero_le _, Lib.hid (Below.refl _ _)⟩
      case round =>
        obtain ⟨k, rfl, hk, hh⟩ := hrel
        have hw := hh.out
        have hsz := hw.size
        by_cases h : k < nj
        · have hlr := hlj.below (fun _ a e => by obtain ⟨g, rfl, _, h2⟩ := haj a e; exact h2) hw
          obtain ⟨gz, oz, rfl, hgz, hc⟩ := hlr (by omega)
          obtain ⟨c0, c1, hok⟩ := hc k h
          have hnb := Below.new wr (.cells #[.string (jlegs rx.2 ry.2 k).a, .int .i64 (jlegs rx.2 ry.2 k).x] 31)
          have hbx := heap_alloc_new wr (.cells #[.string (jlegs rx.2 ry.2 k).a, .int .i64 (jlegs rx.2 ry.2 k).x] 31)
          have hw2 := hw.trans (hnb.mono hsz)
          have hw3 := HB13.out.trans (hw2.mono HB13.out.size)
          have b1 := amount_of Az cz' rz.2 (jlegs rx.2 ry.2 k).a _ HGZ.out (hlz.below (fun _ a e => by obtain ⟨g, rfl, _, h2⟩ := haz a e; exact h2) hw3) (fun a e => by obtain ⟨g, rfl, _, h2⟩ := haz a e; have := hw3.size; show g < _; omega) lz
          rw [HJH.out k h] at b1
          have HW2 := Lib.hid hw2
          generalize (jlegs rx.2 ry.2 k).a = t at *
          generalize (jlegs rx.2 ry.2 k).x = x at *
          generalize numAt rz.2 (kl t) = p at *
          clear hlr hc hnb hbx hw hw2 hw3 hh hok
          go_wp2_with fail
          refine b1.mono ?_
          clear b1
          rintro e w14 ⟨rfl, hb⟩
          have HB14 := Lib.hid (HW2.out.trans (hb.mono HW2.out.size))
          clear hb
          go_wp2
          go_roundw
          case rel => exact ⟨k + 1, by go_num, by omega, HB14⟩
          case measure => simp [intOf]; omega
        · have HE := Lib.hid (HB9.out.trans ((HB13.out.trans (hw.mono HB13.out.size)).mono HB9.out.size))
          clear hh hw
          go_wp2
          go_ret
          exact ⟨rfl, HE.out⟩
end Go.Proofs.YtodekiimkbejnaaDoor
