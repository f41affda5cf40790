/- money.Split of an amount not below nought by good weights: walked, over the contracts of the division and of the sort. -/
import Derived.Test.YthkobjbemmllfaaGreatDoorSplit
namespace Go.Proofs.YthkobjbemmllfaaGreatDoor
open Go.RowKit

/-- The sort of the places. -/
def SortOK (n : Nat) (R : Nat → Nat) : Prop := ∀ (w0 w : World) (bS bR bO b1 b2 : Nat) (S : Nat → Nat), Made5 w0 w bS bR bO b1 b2 n S R (fun i => i) →
  Calls Tryz.prog 22 #[.iface 22 (.slice (some ⟨bO, 0, none⟩) n n), .func (.func 23) #[] #[.pointer (some ⟨b1, 0, none⟩), .pointer (some ⟨b2, 0, none⟩)]] w fun e w' => e = .returned (.tuple #[]) ∧ ∃ ord, IsOrd R n ord ∧ Made5 w0 w' bS bR bO b1 b2 n S R ord

def fillTo (f : Nat → Nat) (i : Nat) : Nat → Nat := fun j => if j < i then f j else 0
theorem fill_step (f : Nat → Nat) (i : Nat) : ∀ j, upd (fillTo f i) i (f i) j = fillTo f (i + 1) j := fun j => by
  unfold upd fillTo
  by_cases h : j = i
  · subst h; rw [if_pos rfl, if_pos (by omega)]
  · rw [if_neg h]
    by_cases h2 : j < i
    · rw [if_pos h2, if_pos (by omega)]
    · rw [if_neg h2, if_neg (by omega)]
/-- What stands in the two boxes. -/
def Box (b1 b2 bR bO n : Nat) (W : World) : Prop := W.cell? ⟨b1, 0, none⟩ = some (.slice (some ⟨bR, 0, none⟩) n n) ∧ W.cell? ⟨b2, 0, none⟩ = some (.slice (some ⟨bO, 0, none⟩) n n)
theorem Made5.box {w0 w : World} {bS bR bO b1 b2 n : Nat} {S R O : Nat → Nat} (h : Made5 w0 w bS bR bO b1 b2 n S R O) : Box b1 b2 bR bO n w :=
  ⟨by unfold World.cell?; rw [h.x1]; rfl, by unfold World.cell?; rw [h.x2]; rfl⟩
theorem Box.set {b1 b2 bR bO n b i : Nat} {v : Value} {W : World} (h : Box b1 b2 bR bO n W) (h1 : b1 ≠ b) (h2 : b2 ≠ b) : Box b1 b2 bR bO n (W.setCell ⟨b, i, none⟩ v) :=
  ⟨by rw [World.cell?_setCell_other (h := fun e => h1 (congrArg Addr.block e).symm)]; exact h.1, by rw [World.cell?_setCell_other (h := fun e => h2 (congrArg Addr.block e).symm)]; exact h.2⟩

/-- What Split leaves, whatever the order of equal rests comes to. -/
def SplitOut (n a T : Nat) (ws : Nat → Nat) (w : World) (e : Ending) (w' : World) : Prop :=
  ∃ ord, IsOrd (rf a T ws) n ord ∧ SplitPost n (fun x => qf a T ws x + among ord (a - nsum (qf a T ws) n) x) w e w'
theorem nsum_ge (f : Nat → Nat) {x : Nat} : ∀ {n : Nat}, x < n → f x ≤ nsum f n
  | n + 1, h => by
    rw [nsum_succ]
    by_cases e : x = n
    · subst e; omega
    · have := nsum_ge f (x := x) (n := n) (by omega); omega
theorem sub_int {a s : Nat} (h : s ≤ a) : ((a : Int) - (s : Int)) = ((a - s : Nat) : Int) := by omega
theorem upd_congr {f g : Nat → Nat} {n i v : Nat} (h : ∀ j, j < n → f j = g j) : ∀ j, j < n → upd f i v j = upd g i v j := fun j hj => by
  unfold upd; split
  · rfl
  · exact h j hj
theorem among_upd {R : Nat → Nat} {n : Nat} {ord q : Nat → Nat} (h : IsOrd R n ord) {k : Nat} (hk : k < n) : ∀ x, upd (fun x => q x + among ord k x) (ord k) (q (ord k) + among ord k (ord k) + 1) x = q x + among ord (k + 1) x := fun x => by
  unfold upd
  by_cases e : x = ord k
  · subst e
    rw [if_pos rfl, among_none h hk k (Nat.le_refl _)]
    unfold among
    rw [if_pos rfl]
  · rw [if_neg e]
    show q x + among ord k x = q x + (if ord k = x then 1 else among ord k x)
    rw [if_neg (fun h => e h.symm)]

set_option maxRecDepth 100000 in
set_option maxHeartbeats 40000000 in
theorem split_any (A : Option Addr) (n c a T : Nat) (ws : Nat → Nat) (w : World) (ha : a ≤ 9223372036854775807) (hA : Nums w A n ws) (hw : ∀ i, i < n → ws i ≤ 1000000) (hn : n ≤ 17592186044416) (hT : nsum ws n = T) (hT0 : 0 < T) (hT1 : T ≤ 9223372036854775807)
    (hdiv : ∀ i, i < n → DivOK (a * ws i) T) (hsort : SortOK n (rf a T ws)) :
    Calls Tryz.prog 7 #[.int .i64 a, .slice A n c] w (SplitOut n a T ws w) := by
  have HA := Lib.hid hA; have HWS := Lib.hid hw; have HT := Lib.hid hT; have HDIV := Lib.hid hdiv; have HSORT := Lib.hid hsort
  have HSUM := Lib.hid (show ∀ i, i ≤ n → nsum ws i ≤ T from fun i hi => by rw [← hT]; exact nsum_mono ws n hi)
  have HQ := Lib.hid (show ∀ i, i ≤ n → nsum (qf a T ws) i ≤ a from fun i hi => q_le hT hT0 i hi)
  have HLEFT := Lib.hid (left_le (a := a) hT hT0)
  have d0 : decide ((a : Int) < 0) = false := decide_eq_false (by omega)
  have hn2 : (n : Int) ≤ 17592186044416 := by omega
  have hT1' : (T : Int) ≤ 9223372036854775807 := by omega
  have ha' : (a : Int) ≤ 9223372036854775807 := by omega
  have K24 := Lib.hid (make24 n hn)
  have K22 := Lib.hid (make22 n hn)
  clear hA hw hT hdiv hsort
  go_enter Tryz.func7, Tryz.ntmps7
  go_wp2_with fail
  go_loop [25, 6] (fun vi vt => ∃ i : Nat, vi = .int .i64 i ∧ i ≤ n ∧ vt = .int .i64 (nsum ws i)) (fun vi _ => n - (intOf vi).toNat)
  case atStart => exact ⟨0, rfl, Nat.zero_le _, rfl⟩
  case round =>
    obtain ⟨i, rfl, hi, rfl⟩ := hrel
    rcases Nat.lt_or_ge i n with h | h
    · rcases HA.out with h0 | ⟨b, o, rfl, hb, hc⟩
      · omega
      · have hci := hc i h
        have hwi := HWS.out i h
        have hsu := HSUM.out (i + 1) h
        have HS := Lib.hid (nsum_succ ws i)
        rw [nsum_succ] at hsu
        have hiI : (i : Int) < n := by omega
        generalize ws i = x at *
        generalize nsum ws i = s at *
        have d2 : decide ((x : Int) < 0) = false := decide_eq_false (by omega)
        have d3 : decide ((1000000 : Int) < (x : Int)) = false := decide_eq_false (by omega)
        have hxI : (x : Int) ≤ 1000000 := by omega
        have hsI : (s : Int) + (x : Int) ≤ 9223372036854775807 := by omega
        clear hc hb
        go_wp2
        go_round
        case rel => exact ⟨i + 1, by go_num, h, by rw [HS.out]; go_num⟩
        case measure => simp [intOf]; omega
    · obtain rfl : n = i := by omega
      rw [HT.out]
      have d1 : ((T : Int) == 0) = false := by simp; omega
      have k24 := K24.out
      have k22 := K22.out
      clear h hi
      go_upto_region 13 with (fail)
      go_cut [9, 10, 11] (fun v9 v10 v11 wr => Rel5 w n v9 v10 v11 wr)
      case first =>
        go_region
        all_goals
          go_wp2_with fail
          go_meet
          simp only [Go.Sort.alloc_eq_grow, Go.Sort.grow_grow]
          apply Rel5.mk' (m := 1) rfl
          iterate 5 first | exact grow_at (j := 0) rfl rfl | exact grow_at (j := 1) rfl rfl | exact grow_at (j := 2) rfl rfl | exact grow_at (j := 3) rfl rfl | exact grow_at (j := 4) rfl rfl
          · omega
          · omega
      case rest =>
        obtain ⟨bS, bR, bO, b1, b2, rfl, rfl, rfl, hM⟩ := hcut
        have HM := Lib.hid (hM.congr (S' := fillTo (qf a T ws) 0) (R' := fillTo (rf a T ws) 0) (O' := fillTo (fun i => i) 0) (fun _ _ => rfl) (fun _ _ => rfl) (fun _ _ => rfl))
        obtain ⟨n1, n2, n3, n4, n5, n6, n7, n8, n9⟩ := hM.ne
        clear hM k24 k22 K24 K22
        go_wp2_with fail
        go_loopw [55, 12] (fun vi vl wr => ∃ i : Nat, vi = .int .i64 i ∧ i ≤ n ∧ vl = .int .i64 ((a - nsum (qf a T ws) i : Nat) : Int) ∧ Hid (Made5 w wr bS bR bO b1 b2 n (fillTo (qf a T ws) i) (fillTo (rf a T ws) i) (fillTo (fun i => i) i))) (fun vi _ _ => n - (intOf vi).toNat)
        case atStart => exact ⟨0, rfl, Nat.zero_le _, by simp [nsum], HM⟩
        case round =>
          obtain ⟨i, rfl, hi, rfl, hm⟩ := hrel
          rcases Nat.lt_or_ge i n with h | h
          · rcases HA.out with h0 | ⟨b, o, rfl, hb, hc⟩
            · omega
            · have hci := (hm.out.below.cell (p := ⟨b, o + i, none⟩) hb).trans (hc i h)
              have hwi := HWS.out i h
              have hiI : (i : Int) < n := by omega
              have BX := Lib.hid hm.out.box
              clear hc
              have HX := Lib.hid (show ∃ x, x = ws i from ⟨_, rfl⟩)
              obtain ⟨x, hx⟩ := HX.out
              rw [← hx] at hci hwi
              have HX := Lib.hid hx
              have HDX := Lib.hid (show DivOK (a * x) T by rw [hx]; exact HDIV.out i h)
              have z1 : (wr.alloc (.cells #[.bool false, .slice none 0 0] 48)).heap[wr.heap.size]? = some (.cells #[.bool false, .slice none 0 0] 48 (0, 0)) := heap_alloc_new wr _
              have b1' : Below wr.heap.size wr (wr.alloc (.cells #[.bool false, .slice none 0 0] 48)) := Below.new wr _
              have Z1 := Lib.hid z1; have B1 := Lib.hid b1'
              clear z1 b1'
              clear hx
              have GE : wr.heap.size < (wr.alloc (.cells #[.bool false, .slice none 0 0] 48)).heap.size := by simp
              go_wp2_with fail
              generalize wr.alloc (.cells #[.bool false, .slice none 0 0] 48) = w1 at *
              refine (newInt_pos a w1 (by omega)).mono ?_
              rintro e w2 ⟨p, rfl, hp2, hb2⟩
              have s12 := hb2.size
              have gp : w1.heap.size ≤ p := by obtain ⟨_, _, _, h, _⟩ := hp2; exact h
              have lp : p < w2.heap.size := hp2.lt
              have Z2 := Lib.hid (fix_at Z1.out hb2)
              have P2 := Lib.hid (hp2.mono (base' := wr.heap.size) (by omega))
              have B2 := Lib.hid (B1.out.trans (hb2.mono (Nat.le_of_lt GE)))
              clear hp2 hb2 Z1 B1
              go_wp2_with fail
              refine (newInt_pos x w2 (by omega)).mono ?_
              rintro e w3 ⟨p3, rfl, hp3, hb3⟩
              have s23 := hb3.size
              have gp3 : w2.heap.size ≤ p3 := by obtain ⟨_, _, _, h, _⟩ := hp3; exact h
              have Z3 := Lib.hid (fix_at Z2.out hb3)
              have P2' := Lib.hid (P2.out.below hb3)
              have P3 := Lib.hid (hp3.mono (base' := wr.heap.size) (by omega))
              have B3 := Lib.hid (B2.out.trans (hb3.mono (by omega)))
              clear hp3 hb3 Z2 P2 B2
              have a1 := mul_pos (base := wr.heap.size) (gs := wr.heap.size) (gx := p) (gy := p3) (X := a) (Y := x) (w := w3) Z3.out P2'.out P3.out (by omega) (Nat.le_refl _) (by omega) (by omega) (by omega)
              clear Z3 P2' P3
              go_wp2_with fail
              refine a1.mono ?_
              clear a1
              rintro e w4 ⟨rfl, hx, hfr⟩
              have s34 := hfr.2.2.2.1
              have B4 := Lib.hid (Below.of_op B3.out (Nat.le_refl _) hfr)
              have X4 := Lib.hid hx
              clear hx hfr B3
              have z5 : (w4.alloc (.cells #[.bool false, .slice none 0 0] 48)).heap[w4.heap.size]? = some (.cells #[.bool false, .slice none 0 0] 48 (0, 0)) := heap_alloc_new w4 _
              have b5 : Below w4.heap.size w4 (w4.alloc (.cells #[.bool false, .slice none 0 0] 48)) := Below.new w4 _
              have Z5 := Lib.hid z5
              have X5 := Lib.hid (X4.out.below b5)
              have B5 := Lib.hid (B4.out.trans (b5.mono (by omega)))
              have GE5 : w4.heap.size < (w4.alloc (.cells #[.bool false, .slice none 0 0] 48)).heap.size := by simp
              clear z5 b5 X4 B4
              go_wp2_with fail
              generalize w4.alloc (.cells #[.bool false, .slice none 0 0] 48) = w5 at *
              refine (newInt_pos T w5 (by omega)).mono ?_
              rintro e w6 ⟨p6, rfl, hp6, hb6⟩
              have s56 := hb6.size
              have gp6 : w5.heap.size ≤ p6 := by obtain ⟨_, _, _, h, _⟩ := hp6; exact h
              have lp6 : p6 < w6.heap.size := hp6.lt
              have Z6 := Lib.hid (fix_at Z5.out hb6)
              have X6 := Lib.hid (X5.out.below hb6)
              have P6 := Lib.hid (hp6.mono (base' := wr.heap.size) (by omega))
              have B6 := Lib.hid (B5.out.trans (hb6.mono (by omega)))
              have b7 : Below w6.heap.size w6 (w6.alloc (.cells #[.bool false, .slice none 0 0] 48)) := Below.new w6 _
              have z7 : (w6.alloc (.cells #[.bool false, .slice none 0 0] 48)).heap[w6.heap.size]? = some (.cells #[.bool false, .slice none 0 0] 48 (0, 0)) := heap_alloc_new w6 _
              have Z7 := Lib.hid z7
              have Z7' := Lib.hid (fix_at Z6.out b7)
              have X7 := Lib.hid (X6.out.below b7)
              have P7 := Lib.hid (P6.out.below b7)
              have B7 := Lib.hid (B6.out.trans (b7.mono (by omega)))
              have GE7 : w6.heap.size < (w6.alloc (.cells #[.bool false, .slice none 0 0] 48)).heap.size := by simp
              clear hp6 hb6 z7 b7 Z5 X5 B5 Z6 X6 P6 B6
              go_wp2_with fail
              generalize w6.alloc (.cells #[.bool false, .slice none 0 0] 48) = w7 at *
              have a2 := divMod_pos (base := wr.heap.size) (gz := w4.heap.size) (gr := w6.heap.size) (gx := wr.heap.size) (gy := p6) (X := a * x) (d := T) (w := w7) Z7'.out Z7.out X7.out P7.out (by omega) HDX.out (by omega) (by omega) (by omega) (by omega) (by omega) (by omega) (by omega) (by omega) (by omega)
              clear Z7 Z7' X7 P7
              refine a2.mono ?_
              clear a2
              rintro e w8 ⟨rfl, hq, hr, hfr⟩
              have s78 := hfr.2.2.2.1
              have B8 : Hid (Below wr.heap.size wr w8) := by
                obtain ⟨k1, k2, k3, k4, k5⟩ := hfr
                exact B7.out.trans ⟨k1, k2, k3, k4, fun k hk => k5 k (by omega) (by omega) (by omega)⟩
              clear hfr B7
              generalize hgz : w4.heap.size = gz at *
              generalize hgr : w6.heap.size = gr at *
              clear hgz hgr s12 gp lp s23 gp3 s34 GE5 s56 gp6 lp6 GE7 s78 GE
              have hq10 : a * x / T ≤ a := by
                have hs := HSUM.out (i + 1) h
                rw [nsum_succ, ← HX.out] at hs
                have hx' : x ≤ T := by omega
                calc a * x / T ≤ a * T / T := Nat.div_le_div_right (Nat.mul_le_mul_left a hx')
                  _ = a := Nat.mul_div_cancel _ hT0
              have hr10 : a * x % T < T := Nat.mod_lt _ hT0
              have a3 : Calls Tryz.prog 21 #[.pointer (some ⟨gz, 0, none⟩)] w8.drew fun e w' => e = .returned (.int .i64 ((a * x / T : Nat) : Int)) ∧ w8.drew = w' := by
                obtain ⟨v, k1, k2, _⟩ := hq
                exact int64_pos k1 (k2.keep fun _ _ => rfl) (by omega)
              have a4 : Calls Tryz.prog 21 #[.pointer (some ⟨gr, 0, none⟩)] w8.drew fun e w' => e = .returned (.int .i64 ((a * x % T : Nat) : Int)) ∧ w8.drew = w' := by
                obtain ⟨v, k1, k2, _⟩ := hr
                exact int64_pos k1 (k2.keep fun _ _ => rfl) (by omega)
              have hM8 := hm.out.step B8.out
              have hM9 := ((hM8.drewN 1).setS i (a * x / T)).setR i (a * x % T) |>.setO i i
              have hf1 := hM8.s.cell h
              have hf1' := hM8.s.frozen i
              have hf2 := hM8.r.cell h
              have hf2' := hM8.r.frozen i
              have hf3 := hM8.o.cell h
              have hf3' := hM8.o.frozen i
              have hqi : qf a T ws i = a * x / T := by unfold qf; rw [HX.out]
              have hri : rf a T ws i = a * x % T := by unfold rf; rw [HX.out]
              have hM10 := Lib.hid (hM9.congr (S' := fillTo (qf a T ws) (i + 1)) (R' := fillTo (rf a T ws) (i + 1)) (O' := fillTo (fun i => i) (i + 1)) (fun j _ => by rw [← hqi]; exact fill_step _ i j) (fun j _ => by rw [← hri]; exact fill_step _ i j) (fun j _ => fill_step (fun i => i) i j))
              have hg9 := hM9.s.cell h
              have hup : upd (fillTo (qf a T ws) i) i (a * x / T) i = a * x / T := upd_at _ _ _
              have HQI := Lib.hid hqi
              have BX8 := Lib.hid hM8.box
              rw [hup] at hg9
              clear hq hr hm BX HSUM HDIV hM8 hM9 hqi hri hup B8
              generalize a * x / T = q at *
              generalize a * x % T = r at *
              clear HX
              have BX := Lib.hid (show Box b1 b2 bR bO n w8.drew from BX8.out)
              go_wp2_with fail
              refine wp_region_R (S := Box b1 b2 bR bO n) (late := []) (by kernel_rfl) ?_
              refine wpAnyR_takeY (i := 0) (v := .slice (some ⟨bS, 0, none⟩) n n) rfl (by kernel_rfl) (by kernel_rfl) (by kernel_rfl) (fun _ _ _ h => h) (Or.inl ⟨by kernel_rfl, ?_⟩) ?_
              · intro W _; go_simp
              try simp only [Act.put]
              refine wpAnyR_takeY (i := 1) (v := .int .i64 i) rfl (by kernel_rfl) (by kernel_rfl) (by kernel_rfl) (fun _ _ _ h => h) (Or.inl ⟨by kernel_rfl, ?_⟩) ?_
              · intro W _; go_simp
              try simp only [Act.put]
              refine wpAnyR_take (i := 2) (v := .slice (some ⟨bR, 0, none⟩) n n) rfl (by kernel_rfl) (by kernel_rfl) (by kernel_rfl) (by kernel_rfl) (by kernel_rfl) (fun _ _ _ h => h) (Or.inl ⟨by kernel_rfl, ?_⟩) BX.out ?_
              · intro W hSw; obtain ⟨s1, s2⟩ := hSw; go_simp
              try simp only [Act.put]
              refine wpAnyR_takeY (i := 3) (v := .int .i64 i) rfl (by kernel_rfl) (by kernel_rfl) (by kernel_rfl) (fun _ _ _ h => h) (Or.inl ⟨by kernel_rfl, ?_⟩) ?_
              · intro W _; go_simp
              try simp only [Act.put]
              refine wpAnyR_take (i := 4) (v := .slice (some ⟨bO, 0, none⟩) n n) rfl (by kernel_rfl) (by kernel_rfl) (by kernel_rfl) (by kernel_rfl) (by kernel_rfl) (fun _ _ _ h => h) (Or.inl ⟨by kernel_rfl, ?_⟩) BX.out ?_
              · intro W hSw; obtain ⟨s1, s2⟩ := hSw; go_simp
              try simp only [Act.put]
              refine wpAnyR_takeY (i := 5) (v := .int .i64 i) rfl (by kernel_rfl) (by kernel_rfl) (by kernel_rfl) (fun _ _ _ h => h) (Or.inl ⟨by kernel_rfl, ?_⟩) ?_
              · intro W _; go_simp
              try simp only [Act.put]
              refine wpAnyR_takeY (i := 6) (v := .pointer (some ⟨gz, 0, none⟩)) rfl (by kernel_rfl) (by kernel_rfl) (by kernel_rfl) (fun _ _ _ h => h) (Or.inl ⟨by kernel_rfl, ?_⟩) ?_
              · intro W _; go_simp
              try simp only [Act.put]
              refine wpAnyR_takeY (i := 8) (v := .pointer (some ⟨gr, 0, none⟩)) rfl (by kernel_rfl) (by kernel_rfl) (by kernel_rfl) (fun _ _ _ h => h) (Or.inl ⟨by kernel_rfl, ?_⟩) ?_
              · intro W _; go_simp
              try simp only [Act.put]
              refine wpAnyR_takeY (i := 10) (v := .int .i64 i) rfl (by kernel_rfl) (by kernel_rfl) (by kernel_rfl) (fun _ _ _ h => h) (Or.inl ⟨by kernel_rfl, ?_⟩) ?_
              · intro W _; go_simp
              try simp only [Act.put]
              refine wpAnyR_one (i := 7) (by kernel_rfl) rfl (fun K hK => ?_)
              go_simp
              go_at_call 21
              refine a3.mono ?_
              rintro e w2 ⟨rfl, rfl⟩
              try go_simp
              refine hK.out _ _ (.inr id) ?_
              clear hK K
              try simp only [Act.put]
              refine wpAnyR_one (i := 9) (by kernel_rfl) rfl (fun K hK => ?_)
              go_simp
              go_at_call 21
              refine a4.mono ?_
              rintro e w2 ⟨rfl, rfl⟩
              try go_simp
              refine hK.out _ _ (.inr id) ?_
              clear hK K
              try simp only [Act.put]
              refine wpAnyR_takeY (i := 11) (v := .pointer (some ⟨bS, i, none⟩)) rfl (by kernel_rfl) (by kernel_rfl) (by kernel_rfl) (fun _ _ _ h => h) (Or.inl ⟨by kernel_rfl, ?_⟩) ?_
              · intro W _; go_simp
              try simp only [Act.put]
              refine wpAnyR_one (i := 12) (by kernel_rfl) rfl (fun K hK => ?_)
              go_simp
              refine hK.out _ _ (.inr fun h => h.set n4.symm n7.symm) ?_
              clear hK K
              try simp only [Act.put]
              refine wpAnyR_takeY (i := 13) (v := .pointer (some ⟨bR, i, none⟩)) rfl (by kernel_rfl) (by kernel_rfl) (by kernel_rfl) (fun _ _ _ h => h) (Or.inl ⟨by kernel_rfl, ?_⟩) ?_
              · intro W _; go_simp
              try simp only [Act.put]
              refine wpAnyR_one (i := 14) (by kernel_rfl) rfl (fun K hK => ?_)
              go_simp
              refine hK.out _ _ (.inr fun h => h.set n5.symm n8.symm) ?_
              clear hK K
              try simp only [Act.put]
              refine wpAnyR_takeY (i := 15) (v := .pointer (some ⟨bO, i, none⟩)) rfl (by kernel_rfl) (by kernel_rfl) (by kernel_rfl) (fun _ _ _ h => h) (Or.inl ⟨by kernel_rfl, ?_⟩) ?_
              · intro W _; go_simp
              try simp only [Act.put]
              refine wpAnyR_one (i := 16) (by kernel_rfl) rfl (fun K hK => ?_)
              go_simp
              refine hK.out _ _ (.inr fun h => h.set n6.symm n9.symm) ?_
              clear hK K
              try simp only [Act.put]
              refine wpAnyR_done (by kernel_rfl) ?_ _
              obtain ⟨w9, hw9⟩ : ∃ w9, w9 = (((w8.setCell ⟨bS, i, none⟩ (.int .i64 q)).setCell ⟨bR, i, none⟩ (.int .i64 r)).setCell ⟨bO, i, none⟩ (.int .i64 i)).drew := ⟨_, rfl⟩
              have HM11 := Lib.hid (show Made5 w w9 bS bR bO b1 b2 n (fillTo (qf a T ws) (i + 1)) (fillTo (rf a T ws) (i + 1)) (fillTo (fun i => i) (i + 1)) by rw [hw9]; exact hM10.out)
              have hg : w9.cell? ⟨bS, i, none⟩ = some (.int .i64 q) := by rw [hw9]; exact hg9
              rw [← hw9]
              have hql := HQ.out (i + 1) h
              rw [nsum_succ, HQI.out] at hql
              have HL := Lib.hid (show a - nsum (qf a T ws) (i + 1) = a - nsum (qf a T ws) i - q by rw [nsum_succ, HQI.out]; omega)
              have hql2 : q ≤ a - nsum (qf a T ws) i := by omega
              have hla : a - nsum (qf a T ws) i ≤ 9223372036854775807 := by omega
              clear hw9 hM10 hg9 hf1 hf1' hf2 hf2' hf3 hf3' a3 a4 BX BX8 hql
              generalize a - nsum (qf a T ws) i = l at *
              go_wp2
              go_roundw
              case rel => exact ⟨i + 1, by go_num, h, by rw [HL.out, ← sub_int hql2], HM11⟩
              case measure => simp [intOf]; omega
          · obtain rfl : n = i := by omega
            have hm2 := hm.out.congr (S' := qf a T ws) (R' := rf a T ws) (O' := fun i => i) (fun j hj => if_pos hj) (fun j hj => if_pos hj) (fun j hj => if_pos hj)
            have a1 := HSORT.out w wr bS bR bO b1 b2 (qf a T ws) hm2
            obtain ⟨bx1, bx2⟩ := hm2.box
            clear hm2 hm h hi HM
            go_wp2_with fail
            refine a1.mono ?_
            clear a1 bx1 bx2
            rintro e w2 ⟨rfl, ord, ho, hm2⟩
            obtain ⟨bx1, bx2⟩ := hm2.box
            have HLE := Lib.hid HLEFT.out
            have hln := HLEFT.out
            have HO := Lib.hid ho
            have HM2 := Lib.hid (hm2.congr (S' := fun x => qf a T ws x + among ord 0 x) (fun _ _ => rfl) (fun _ _ => rfl) (fun _ _ => rfl))
            clear ho hm2 HLEFT
            have HQX := Lib.hid (show ∀ x, x < n → qf a T ws x + (a - nsum (qf a T ws) n) ≤ a from fun x hx => by
              have := nsum_ge (qf a T ws) hx
              have := HQ.out n (Nat.le_refl _)
              omega)
            generalize hLL : a - nsum (qf a T ws) n = L at *
            have HL := Lib.hid hLL
            clear hLL HQ HSUM HDIV HSORT HWS
            have hlI : (L : Int) ≤ (n : Int) := by omega
            go_wp2_with fail
            go_loopw [104] (fun vi wr => ∃ k : Nat, vi = .int .i64 k ∧ k ≤ L ∧ Hid (Made5 w wr bS bR bO b1 b2 n (fun x => qf a T ws x + among ord k x) (rf a T ws) ord)) (fun vi _ => L - (intOf vi).toNat)
            case atStart => exact ⟨0, rfl, Nat.zero_le _, HM2⟩
            case round =>
              obtain ⟨k, rfl, hk, hm⟩ := hrel
              rcases Nat.lt_or_ge k L with h | h
              · have hkn : k < n := by omega
                have hok := HO.out.lt k hkn
                have c1 := hm.out.o.cell hkn
                have c2 := hm.out.s.cell hok
                have c2f := hm.out.s.frozen (ord k)
                have hs := HQX.out (ord k) hok
                have h0 := among_none HO.out hkn k (Nat.le_refl _)
                have HMM := Lib.hid ((hm.out.setS (ord k) (qf a T ws (ord k) + among ord k (ord k) + 1)).congr (S' := fun x => qf a T ws x + among ord (k + 1) x) (fun x _ => among_upd HO.out hkn x) (fun _ _ => rfl) (fun _ _ => rfl))
                have hs2 : qf a T ws (ord k) + among ord k (ord k) + 1 ≤ 9223372036854775807 := by omega
                clear hm h0 hs bx1 bx2
                generalize qf a T ws (ord k) + among ord k (ord k) = s at *
                generalize ord k = x at *
                have hkI : (k : Int) < L := by omega
                have hxI : (x : Int) < n := by omega
                have hsI : (s : Int) + 1 ≤ 9223372036854775807 := by omega
                go_wp2
                go_roundw
                case rel => exact ⟨k + 1, by go_num, h, HMM⟩
                case measure => simp [intOf]; omega
              · obtain rfl : L = k := by omega
                have H1 := Lib.hid hm.out
                clear hm bx1 bx2
                go_wp2
                go_ret2
                exact ⟨ord, HO.out, bS, rfl, H1.out.ge.1, H1.out.s.congr fun x _ => by rw [HL.out], H1.out.below⟩
end Go.Proofs.YthkobjbemmllfaaGreatDoor
