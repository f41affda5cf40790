/- AuditReplays: walked. -/
import Derived.Test.YtodekiimkbejnaaGreatDoorSameW
import Derived.Test.YtodekiimkbejnaaGreatDoorLivesW
namespace Go.Proofs.YtodekiimkbejnaaGreatDoor
open Go.RowKit Go.WideMaps Go.Maps Go.Sort

/-- Replay's two results, the error by its number. -/
def RepN (Bf : Nat → Addr) (r : Nat × DataW Unit) (B : Nat) (w' : World) (x ex : Value) : Prop :=
  (r.1 = 0 ∧ ex = .nilIface ∧ w'.ownsRow B 37 2 x (sortedKeys r.2).length (legCells r.2 (sortedKeys r.2))) ∨
  (r.1 = 1 ∧ x = .slice none 0 0 ∧ ex = .iface 135 (.pointer (some (Bf 0)))) ∨
  (r.1 = 2 ∧ x = .slice none 0 0 ∧ ex = .iface 135 (.pointer (some (Bf 1))))
theorem RepPost.three {Bf : Nat → Addr} {r : Nat × DataW Unit} {w w' : World} {e : Ending} (h : RepPost Bf r w e w') : Below w.heap.size w w' ∧ ∃ x ex, e = .returned (.tuple #[x, ex]) ∧ RepN Bf r w.heap.size w' x ex := by
  refine ⟨h.1, ?_⟩
  rcases h.2 with ⟨h1, v, h2, h3⟩ | ⟨h1, h2⟩ | ⟨h1, h2⟩
  · exact ⟨v, _, h2, .inl ⟨h1, rfl, h3⟩⟩
  · exact ⟨_, _, h2, .inr (.inl ⟨h1, rfl, rfl⟩)⟩
  · exact ⟨_, _, h2, .inr (.inr ⟨h1, rfl, rfl⟩)⟩
theorem RepN.below {Bf : Nat → Addr} {r : Nat × DataW Unit} {B : Nat} {w w' : World} {x ex : Value} (h : RepN Bf r B w x ex) (hb : Below w.heap.size w w') : RepN Bf r B w' x ex := by
  rcases h with ⟨h1, h2, h3⟩ | h
  · exact .inl ⟨h1, h2, ownsRow_of_block h3 fun g e => hb.block g (h3.lt g e).2⟩
  · exact .inr h
/-- The reference's two results. -/
def RefN (r : Nat × DataW Unit) (B : Nat) (w' : World) (x ex : Value) : Prop :=
  (r.1 = 0 ∧ ex = .int .i64 0 ∧ w'.ownsRow B 37 2 x (sortedKeys r.2).length (legCells r.2 (sortedKeys r.2))) ∨
  (r.1 = 1 ∧ x = .slice none 0 0 ∧ ex = .int .i64 24) ∨ (r.1 = 2 ∧ x = .slice none 0 0 ∧ ex = .int .i64 10)
theorem RefPost.three {r : Nat × DataW Unit} {w w' : World} {e : Ending} (h : RefPost r w e w') : Below w.heap.size w w' ∧ ∃ x ex, e = .returned (.tuple #[x, ex]) ∧ RefN r w.heap.size w' x ex := by
  refine ⟨h.1, ?_⟩
  rcases h.2 with ⟨h1, v, h2, h3⟩ | ⟨h1, h2⟩ | ⟨h1, h2⟩
  · exact ⟨v, _, h2, .inl ⟨h1, rfl, h3⟩⟩
  · exact ⟨_, _, h2, .inr (.inl ⟨h1, rfl, rfl⟩)⟩
  · exact ⟨_, _, h2, .inr (.inr ⟨h1, rfl, rfl⟩)⟩
def leg0' : LegV := ⟨⟨#[]⟩, 0⟩
/-- What the law sees of the answers: the errors' number m, and legs, alike all three. -/
structure Seen (Bf : Nat → Addr) (w : World) (a e b f c n : Value) (Ba Bb : Nat) : Prop where
  num : ∃ m : Nat, m ≤ 37 ∧ e = ev Bf m ∧ f = ev Bf m ∧ n = .int .i64 m
  legs : ∃ (len : Nat) (lg : Nat → LegV) (Aa Ab Ac : Option Addr) (ca cb cc : Nat) (xs : List Value), len ≤ 16777216 ∧ a = .slice Aa len ca ∧ b = .slice Ab len cb ∧ c = .slice Ac len cc ∧ LegsAt w Aa len lg ∧ LegsAt w Ab len lg ∧ LegsAt w Ac len lg ∧
    w.ownsRow Ba 37 2 a len xs ∧ (∀ x, Ab = some x → Bb ≤ x.block ∧ x.block < w.heap.size) ∧ (∀ x, Ac = some x → Bb ≤ x.block ∧ x.block < w.heap.size) ∧ (∀ g, a.ownBlock = some g → g < Bb)
theorem seen {Bf : Nat → Addr} {r : Nat × DataW Unit} {w : World} {a e b f c n : Value} {Ba Bb Bc : Nat} (h1 : RepN Bf r Ba w a e) (h2 : RepN Bf r Bb w b f) (h3 : RefN r Bc w c n) (hb : ∀ g, a.ownBlock = some g → g < Bb) (hbc : Bb ≤ Bc) (hG : r.1 = 0 → Good r.2 ∧ KeysLe r.2 ∧ (sortedKeys r.2).length ≤ 16777216) : Seen Bf w a e b f c n Ba Bb := by
  rcases h1 with ⟨r1, e1, o1⟩ | ⟨r1, rfl, e1⟩ | ⟨r1, rfl, e1⟩
  · rcases h2 with ⟨_, e2, o2⟩ | ⟨r2, _⟩ | ⟨r2, _⟩
    · rcases h3 with ⟨_, e3, o3⟩ | ⟨r3, _⟩ | ⟨r3, _⟩
      · obtain ⟨hg, hk, hl⟩ := hG r1
        obtain ⟨Aa, ca, ea, la, ha⟩ := legs_of_row o1 hg hk
        obtain ⟨Ab, cb, eb, lb, hb2⟩ := legs_of_row o2 hg hk
        obtain ⟨Ac, cc, ec, lc, hc2⟩ := legs_of_row o3 hg hk
        refine ⟨⟨0, by omega, e1, e2, e3⟩, ⟨_, _, Aa, Ab, Ac, ca, cb, cc, _, hl, ea, eb, ec, la, lb, lc, o1, fun x e => ?_, fun x e => ?_, hb⟩⟩
        · obtain ⟨g, rfl, h4, h5⟩ := hb2 x e; exact ⟨h4, h5⟩
        · obtain ⟨g, rfl, h4, h5⟩ := hc2 x e; exact ⟨Nat.le_trans hbc h4, h5⟩
      · omega
      · omega
    · omega
    · omega
  · rcases h2 with ⟨r2, _⟩ | ⟨_, rfl, e2⟩ | ⟨r2, _⟩
    · omega
    · rcases h3 with ⟨r3, _⟩ | ⟨_, rfl, e3⟩ | ⟨r3, _⟩
      · omega
      · exact ⟨⟨24, by omega, e1, e2, e3⟩, ⟨0, fun _ => leg0', none, none, none, 0, 0, 0, [], by omega, rfl, rfl, rfl, fun h => by omega, fun h => by omega, fun h => by omega, World.ownsRow_nil _ _ _ _, (fun x e => by cases e), (fun x e => by cases e), (fun g e => by cases e)⟩⟩
      · omega
    · omega
  · rcases h2 with ⟨r2, _⟩ | ⟨r2, _⟩ | ⟨_, rfl, e2⟩
    · omega
    · omega
    · rcases h3 with ⟨r3, _⟩ | ⟨r3, _⟩ | ⟨_, rfl, e3⟩
      · omega
      · omega
      · exact ⟨⟨10, by omega, e1, e2, e3⟩, ⟨0, fun _ => leg0', none, none, none, 0, 0, 0, [], by omega, rfl, rfl, rfl, fun h => by omega, fun h => by omega, fun h => by omega, World.ownsRow_nil _ _ _ _, (fun x e => by cases e), (fun x e => by cases e), (fun g e => by cases e)⟩⟩

theorem LegsAt.low {w : World} {A : Option Addr} {n : Nat} {lg : Nat → LegV} (h : LegsAt w A n lg) : 0 < n → ∀ a, A = some a → a.block < w.heap.size := fun hn a e => by
  obtain ⟨g, o, e', hg, _⟩ := h hn
  rw [e'] at e
  obtain rfl := Option.some.inj e
  exact hg
theorem LegsAt.keep {w w' : World} {A : Option Addr} {n : Nat} {lg : Nat → LegV} (h : LegsAt w A n lg) (hb : ∀ a, A = some a → w'.heap[a.block]? = w.heap[a.block]?) (hs : w.heap.size ≤ w'.heap.size) : LegsAt w' A n lg := fun hn => by
  obtain ⟨g, o, e, hg, hc⟩ := h hn
  have hB := hb _ e
  have hB : w'.heap[g]? = w.heap[g]? := hB
  refine ⟨g, o, e, Nat.lt_of_lt_of_le hg hs, fun i hi => ?_⟩
  obtain ⟨h1, h2, h3⟩ := hc i hi
  exact ⟨(World.cell?_of_block (w := w) (a := ⟨g, o + i * 2, none⟩) hB).trans h1, (World.cell?_of_block (w := w) (a := ⟨g, o + i * 2 + 1, none⟩) hB).trans h2, h3⟩

set_option maxRecDepth 100000 in
set_option maxHeartbeats 4000000 in
theorem replays_walk (Bf : Nat → Addr) (A1 : Option Addr) (n1 c1 : Nat) (ps : Nat → PostV) (w : World) (hE : Env w Bf) (hP : PostsAt w A1 n1 ps) (hn1 : n1 ≤ 1048576) (hl1 : ∀ i, i < n1 → (ps i).n ≤ 1048576) :
    Calls Tryz.prog 3 #[.slice A1 n1 c1] w fun e w' => e = .returned (.bool true) ∧ Below w.heap.size w w' := by
  have HE := Lib.hid (fun w' (hb : Below w.heap.size w w') => hE.below hb)
  have HP := Lib.hid (fun w' (hb : Below w.heap.size w w') => hP.below hb)
  have HL1 := Lib.hid hl1
  have a0 := lives_any Bf w hE
  clear hE hP hl1
  go_enter Tryz.func3, Tryz.ntmps3
  go_wp2_with fail
  refine a0.mono ?_
  clear a0
  rintro e w1 ⟨rfl, hb1⟩
  have HB1 := Lib.hid hb1
  have a1 := copies_any A1 n1 c1 ps w1 (HP.out _ hb1) (by omega) (fun i hi => by have := HL1.out i hi; omega)
  clear hb1
  go_wp2_with fail
  refine a1.mono ?_
  clear a1
  rintro e w2 ⟨v, qs, rfl, hC⟩
  have HB2 := Lib.hid (HB1.out.trans (hC.bel.mono HB1.out.size))
  obtain ⟨Am, cm, rfl, hPm⟩ := hC.posts (HP.out _ HB1.out)
  have HCP := Lib.hid hC
  have HPM := Lib.hid (fun w' (hb : Below w2.heap.size w2 w') => hPm.below hb)
  have a2 := replay_any Bf Am n1 cm qs w2 (HE.out _ HB2.out) hPm (by omega)
  rw [postsR_alike n1 hC.alike] at a2
  clear hC hPm
  go_wp2_with fail
  refine a2.mono ?_
  clear a2
  rintro e w3 hr
  obtain ⟨hb3, x, ex, rfl, hx⟩ := hr.three
  have HB3 := Lib.hid (HB2.out.trans (hb3.mono HB2.out.size))
  have H23 := Lib.hid hb3
  have HX := Lib.hid hx
  have a3 := replay_any Bf Am n1 cm qs w3 (HE.out _ HB3.out) (HPM.out _ hb3) (by omega)
  rw [postsR_alike n1 HCP.out.alike] at a3
  clear hr hb3 hx
  go_wp2_with fail
  refine a3.mono ?_
  clear a3
  rintro e w4 hr
  obtain ⟨hb4, y, ey, rfl, hy⟩ := hr.three
  have HB4 := Lib.hid (HB3.out.trans (hb4.mono HB3.out.size))
  have H24 := Lib.hid (H23.out.trans (hb4.mono H23.out.size))
  have HX4 := Lib.hid (HX.out.below hb4)
  have HY := Lib.hid hy
  have H34 := Lib.hid hb4
  have a4 := refReplay_any A1 n1 c1 ps w4 (HP.out _ HB4.out) hn1
  clear hr hb4 hy
  go_wp2_with fail
  refine a4.mono ?_
  clear a4
  rintro e w5 hr
  obtain ⟨hb5, z, ez, rfl, hz⟩ := hr.three
  have HB5 := Lib.hid (HB4.out.trans (hb5.mono HB4.out.size))
  have H25 := Lib.hid (H24.out.trans (hb5.mono H24.out.size))
  have hG : (postsR ps n1).1 = 0 → Good (postsR ps n1).2 ∧ KeysLe (postsR ps n1).2 ∧ (sortedKeys (postsR ps n1).2).length ≤ 16777216 := fun h =>
    ⟨postsR_good _ h, postsR_keys _ (legs_sizes (HP.out _ (Below.refl _ _))) h, by have := sortedKeys_le h; omega⟩
  have hS := seen (HX4.out.below hb5) (HY.out.below hb5) hz (fun g e => by
    rcases HX.out with ⟨_, _, o⟩ | ⟨_, rfl, _⟩ | ⟨_, rfl, _⟩
    · exact (o.lt g e).2
    · cases e
    · cases e) H34.out.size hG
  have HH := Lib.hid (show w2.heap.size ≤ w3.heap.size from H23.out.size)
  clear hr hb5 hz hG HX HX4 HY
  obtain ⟨⟨m, hm, rfl, rfl, rfl⟩, len, lg, Aa, Ab, Ac, ca, cb, cc, xs, hlen, rfl, rfl, rfl, la, lb, lc, hown, hAb, hAc, hga⟩ := hS
  have HLA := Lib.hid (fun w' (hb : Below w5.heap.size w5 w') => la.below la.low hb)
  have HLB := Lib.hid (fun w' (hb : Below w5.heap.size w5 w') => lb.below lb.low hb)
  have HLC := Lib.hid (fun w' (hb : Below w5.heap.size w5 w') => lc.below lc.low hb)
  have HOWN := Lib.hid hown
  have HAB := Lib.hid hAb; have HAC := Lib.hid hAc; have HGA := Lib.hid hga
  have b1 := num_any Bf w5 (HE.out _ HB5.out) m hm
  clear la lb lc hown hAb hAc hga
  generalize hev : ev Bf m = evm at *
  have HEV := Lib.hid hev
  clear hev
  go_wp2_with fail
  refine b1.mono ?_
  clear b1
  rintro e w6 ⟨rfl, hb6⟩
  have H56 := Lib.hid hb6
  have b1 := num_any Bf w6 (HE.out _ (HB5.out.trans (hb6.mono HB5.out.size))) m hm
  rw [HEV.out] at b1
  clear hb6
  go_wp2_with fail
  refine b1.mono ?_
  clear b1
  rintro e w7 ⟨rfl, hb7⟩
  have H57 := Lib.hid (H56.out.trans (hb7.mono H56.out.size))
  clear hb7
  go_wp2_with fail
  refine (same_any Aa Ac len ca cc lg lg w7 (HLA.out _ H57.out) (HLC.out _ H57.out) (fun _ _ => rfl) (by omega)).mono ?_
  rintro e w8 ⟨rfl, k1, hk1⟩
  have H58 := Lib.hid (show Below w5.heap.size w5 w8 by rw [hk1]; exact below_drewN H57.out k1)
  clear hk1
  go_wp2_with fail
  refine (same_any Ab Ac len cb cc lg lg w8 (HLB.out _ H58.out) (HLC.out _ H58.out) (fun _ _ => rfl) (by omega)).mono ?_
  rintro e w9 ⟨rfl, k2, hk2⟩
  have H59 := Lib.hid (show Below w5.heap.size w5 w9 by rw [hk2]; exact below_drewN H58.out k2)
  clear hk2
  go_wp2
  go_loopw [64, 10, 11, 12] (fun vi _ _ _ wr => ∃ i : Nat, vi = .int .i64 i ∧ i ≤ n1 ∧ Hid (Below w5.heap.size w5 wr)) (fun vi _ _ _ _ => n1 - (intOf vi).toNat)
  case atStart => exact ⟨0, rfl, Nat.zero_le _, H59⟩
  case round =>
    obtain ⟨i, rfl, hi, hh⟩ := hrel
    have hw := hh.out
    have hsz := hw.size
    by_cases h : i < n1
    · have h2r := H25.out.trans (hw.mono H25.out.size)
      have hwr := HB5.out.trans (hw.mono HB5.out.size)
      obtain ⟨g, o, rfl, hg, hc⟩ := HPM.out _ h2r (by omega)
      obtain ⟨⟨c0, c1', c2, c3⟩, _, hlq, _⟩ := hc i h
      obtain ⟨g', o', rfl, hg', hc'⟩ := HP.out _ hwr (by omega)
      obtain ⟨⟨d0, d1, d2, d3⟩, hsd, hlp, _⟩ := hc' i h
      obtain ⟨q1, q2, q3, q4, q5⟩ := HCP.out.alike i h
      obtain ⟨gl, e1, _, _, e4⟩ := HCP.out.legs i h
      have hl1 := HL1.out i h
      rw [q1] at c0
      rw [q2] at c1'
      rw [q3] at c2
      rw [q4, e1] at c3 hlq
      rw [q5] at hlq
      rw [q4, q5] at e4
      clear e1 q1 q2 q3 q4 q5 hc hc' hsd
      generalize (qs i).c = cq at *
      generalize (ps i).c = cv at *
      generalize (ps i).A = av at *
      generalize (ps i).lg = lgv at *
      generalize (ps i).n = mv at *
      generalize (ps i).id = idv at *
      generalize (ps i).tick = tkv at *
      generalize (ps i).note = ntv at *
      have hnb := Below.new wr (.cells #[.string idv, .int .i64 tkv, .string ntv, .slice (some ⟨gl, 0, none⟩) mv cq] 35)
      have hbx := heap_alloc_new wr (.cells #[.string idv, .int .i64 tkv, .string ntv, .slice (some ⟨gl, 0, none⟩) mv cq] 35)
      obtain ⟨rc1, _, rc3⟩ := row_cap e4
      have hsp := e4.cells (g := gl) rfl (mv * 2) (.string ⟨#[115, 112, 97, 114, 101]⟩) (by
        have hl := legsL_length lgv mv
        rw [List.getElem?_append_right (by omega), show mv * 2 - (legsL lgv mv).length = 0 by omega]; rfl)
      rw [add_at] at hsp
      have hsp2 := (h2r.cell (p := ⟨gl, mv * 2, none⟩) (by exact rc3)).trans hsp
      have k0 : (wr.alloc (.cells #[.string idv, .int .i64 tkv, .string ntv, .slice (some ⟨gl, 0, none⟩) mv cq] 35)).cell? ⟨wr.heap.size, 0, none⟩ = some (.string idv) := by unfold World.cell?; rw [hbx]; rfl
      have k3 : (wr.alloc (.cells #[.string idv, .int .i64 tkv, .string ntv, .slice (some ⟨gl, 0, none⟩) mv cq] 35)).cell? ⟨wr.heap.size, 3, none⟩ = some (.slice (some ⟨gl, 0, none⟩) mv cq) := by unfold World.cell?; rw [hbx]; rfl
      have hgl : gl < wr.heap.size := Nat.lt_of_lt_of_le rc3 h2r.size
      have s0 := (hnb.cell (p := ⟨gl, mv * 2, none⟩) (by exact hgl)).trans hsp2
      have x0 := (hnb.cell (p := ⟨g', o' + i * 4, none⟩) (by exact hg')).trans d0
      have x3 := (hnb.cell (p := ⟨g', o' + i * 4 + 3, none⟩) (by exact hg')).trans d3
      have y1 := hlq.below hlq.low hnb
      have y2 := hlp.below hlp.low hnb
      have HWN := Lib.hid (hw.trans (hnb.mono hsz))
      clear hh hw h2r hwr hlq hlp hnb hbx hsp hsp2 e4 d0 d1 d2 d3
      have i0 : (0 : Int) ≤ (i : Int) := by omega
      have i1 : (i : Int) < (n1 : Int) := by omega
      have m0 : (0 : Int) ≤ (mv : Int) := by omega
      have m1 : IntKind.i64.wrap ((mv : Int) + 1) = (mv : Int) + 1 := IntWalk.i64_in _ (by omega)
      have m2 : (mv : Int) + 1 ≤ (cq : Int) := by omega
      have m3 : (0 : Int) ≤ (mv : Int) + 1 := by omega
      have m4 : ((mv : Int) + 1).toNat = mv + 1 := by omega
      have m5 : (mv : Int) < ((mv + 1 : Nat) : Int) := by omega
      have m6 : (mv : Int) < (mv : Int) + 1 := by omega
      go_wp2
      generalize wr.alloc (.cells #[.string idv, .int .i64 tkv, .string ntv, .slice (some ⟨gl, 0, none⟩) mv cq] 35) = wx at *
      clear c0 c1' c2 c3
      go_quiet ((go_at_call 9; exact Calls.quiet_of (same_any _ _ _ _ _ _ _ _ (LegsAt.drewN y1 _) (LegsAt.drewN y2 _) (fun _ _ => rfl) (by omega))))
      go_wp2
      exact ⟨⟨i + 1, by go_num, by omega, Lib.hid (below_drewN HWN.out nq)⟩, by simp [intOf]; omega⟩
    · obtain rfl : i = n1 := by omega
      have HW := Lib.hid hw
      have hown := ownsRow_of_block HOWN.out fun g e => hw.block g (HOWN.out.lt g e).2
      have HO0 := Lib.hid hown
      clear hh hw hi h hown
      go_wp2
      obtain ⟨wp, rfl⟩ : ∃ wp : World, wp = wr := ⟨_, rfl⟩
      go_loopw [106, 13] (fun vi _ wr => ∃ k : Nat, vi = .int .i64 k ∧ k ≤ len ∧ Hid ((∃ ys, wr.ownsRow w2.heap.size 37 2 (.slice Aa len ca) len ys) ∧ wp.grownBy wr (Value.slice Aa len ca).ownBlock)) (fun vi _ _ => len - (intOf vi).toNat)
      case atStart => exact ⟨0, rfl, Nat.zero_le _, Lib.hid ⟨⟨xs, HO0.out⟩, ⟨rfl, rfl, rfl, Nat.le_refl _, fun _ _ _ => rfl⟩⟩⟩
      case round =>
        obtain ⟨k, rfl, hk, hh⟩ := hrel
        by_cases h : k < len
        · obtain ⟨⟨ys, hO⟩, hg⟩ := hh.out
          obtain ⟨ga, cap, ev, _, _⟩ := hO.form (by omega)
          cases ev
          have hyl := hO.1
          have fz : ∀ j, wr.frozen? ⟨ga, j, none⟩ = false := fun j => by
            rcases hO.2 with ⟨h', _⟩ | ⟨g', cap', cur, h', _, hgg, _⟩
            · cases h'
            · cases h'
              unfold World.frozen?; rw [hgg]; rfl
          have z0 := fz (k * 2)
          have z1 := fz (k * 2 + 1)
          obtain ⟨v0, hv0⟩ : ∃ v, ys[k * 2]? = some v := ⟨_, List.getElem?_eq_getElem (by omega)⟩
          obtain ⟨v1, hv1⟩ : ∃ v, ys[k * 2 + 1]? = some v := ⟨_, List.getElem?_eq_getElem (by omega)⟩
          have r0 := hO.cells (g := ga) rfl _ _ hv0
          have r1 := hO.cells (g := ga) rfl _ _ hv1
          rw [add_at] at r0 r1
          obtain ⟨p1, p2⟩ := hO.stored (k * 2) (.string ⟨#[115, 112, 111, 105, 108, 116]⟩)
          obtain ⟨p3, p4⟩ := p1.stored (k * 2 + 1) (.int .i64 0)
          have HN := Lib.hid (show (∃ ys, ((wr.setCell ⟨ga, k * 2, none⟩ (.string ⟨#[115, 112, 111, 105, 108, 116]⟩)).setCell ⟨ga, k * 2 + 1, none⟩ (.int .i64 0)).ownsRow w2.heap.size 37 2 (.slice (some ⟨ga, 0, none⟩) len ca) len ys) ∧ wp.grownBy ((wr.setCell ⟨ga, k * 2, none⟩ (.string ⟨#[115, 112, 111, 105, 108, 116]⟩)).setCell ⟨ga, k * 2 + 1, none⟩ (.int .i64 0)) (some ga) from ⟨⟨_, p3⟩, (hg.trans p2).trans p4⟩)
          clear hh hO hg fz hv0 hv1 p1 p2 p3 p4 hyl
          go_wp2
          exact ⟨⟨k + 1, by go_num, by omega, Lib.hid HN.out⟩, by simp [intOf]; omega⟩
        · obtain rfl : k = len := by omega
          obtain ⟨⟨ys, hO⟩, hg⟩ := hh.out
          have hbase : w2.heap.size ≤ wr.heap.size := by have h1 := H25.out.size; have h2 := hg.size; omega
          have hlen1 : k + 1 ≤ 4398046511104 := by omega
          have HG := Lib.hid hg
          have HOL := Lib.hid hO.lt
          clear hh hg hk h
          go_wp2_with (first
            | (at_builtin; refine append_leg rfl _ _ rfl w2.heap.size k _ ys rfl hO ⟨#[109, 111, 114, 101]⟩ 0 rfl hlen1 hbase ?_; intro g7 cap7 w7' ho7 hg7 hat7; have hgg := HG.out.trans hg7; have hbz := hgg.size; have hkeep : ∀ b, w3.heap.size ≤ b → b < wp.heap.size → w7'.heap[b]? = wp.heap[b]? := (fun b h1 h2 => hgg.block b h2 (fun e => by have := HGA.out b e.symm; omega)); have y1 := (HLB.out _ HW.out).keep (w' := w7') (fun a e => by have h3 := HAB.out a e; exact hkeep _ h3.1 (by omega)) hbz; have y2 := (HLC.out _ HW.out).keep (w' := w7') (fun a e => by have h3 := HAC.out a e; exact hkeep _ h3.1 (by omega)) hbz; have hmore := ho7.cells (g := g7) rfl (k * 2) (.string ⟨#[109, 111, 114, 101]⟩) (by
                have hl := hO.1
                rw [List.getElem?_append_right (by omega), show k * 2 - ys.length = 0 by omega]; rfl); rw [add_at] at hmore; have HFB := Lib.hid (show Below w.heap.size w w7' from (HB5.out.trans (HW.out.mono HB5.out.size)).grown hgg (by have h1 := HB5.out.size; have h2 := HW.out.size; omega) (fun b e => by have h1 := (HO0.out.lt b e).1; have h2 := HB2.out.size; omega)); clear ho7 hg7 hat7 hgg hbz hkeep)
            | fail)
          clear hO
          refine (same_any Ab Ac k cb cc lg lg w7' y1 y2 (fun _ _ => rfl) (by omega)).mono ?_
          rintro e w10 ⟨rfl, kk, rfl⟩
          have z1 : (0 : Int) ≤ (k : Int) := by omega
          have z2 : (k : Int) < (k : Int) + 1 := by omega
          go_wp2
          go_ret
          exact ⟨rfl, below_drewN HFB.out _⟩
end Go.Proofs.YtodekiimkbejnaaGreatDoor
