/- money.Rate of an amount not below nought, the product below 2^64: walked. -/
import Derived.Test.YthkobjbemmllfaaGreatDoorBigQ
import Derived.Test.YthkobjbemmllfaaGreatDoorBigI
namespace Go.Proofs.YthkobjbemmllfaaGreatDoor
open Go.RowKit

/-- A number not below nought as NewInt makes it, in blocks from base on. -/
def Pos1 (w : World) (base g M : Nat) : Prop := ∃ v, w.heap[g]? = some (.cells #[.bool false, v] 48 (0, 0)) ∧ W1 w v M ∧ base ≤ g ∧ ∀ k, v.ownBlock = some k → base ≤ k
/-- .. of at most two words, wherever its words lie from base on. -/
def PosN (w : World) (base g M : Nat) : Prop := ∃ v, w.heap[g]? = some (.cells #[.bool false, v] 48 (0, 0)) ∧ Nv w base v M ∧ base ≤ g
theorem Pos1.lt {w : World} {base g M : Nat} (h : Pos1 w base g M) : g < w.heap.size := by
  obtain ⟨v, h1, _⟩ := h; exact lt_of_block h1
theorem W1.block {w : World} {v : Value} {M k : Nat} (h : W1 w v M) (hk : v.ownBlock = some k) : k < w.heap.size := by
  rcases h with ⟨rfl, _⟩ | ⟨h, rfl, ⟨f, hB, _⟩, _, _, _⟩
  · cases hk
  · cases hk; exact hB.lt
theorem Pos1.below {w w' : World} {base g M : Nat} (h : Pos1 w base g M) (hb : Below w.heap.size w w') : Pos1 w' base g M := by
  obtain ⟨v, h1, h2, h3, h4⟩ := h
  exact ⟨v, (hb.block g (lt_of_block h1)).trans h1, h2.keep fun k hk => hb.block k (h2.block hk), h3, h4⟩
theorem PosN.lt {w : World} {base g M : Nat} (h : PosN w base g M) : g < w.heap.size := by
  obtain ⟨v, h1, _⟩ := h; exact lt_of_block h1
theorem PosN.below {w w' : World} {base g M : Nat} (h : PosN w base g M) (hb : Below w.heap.size w w') : PosN w' base g M := by
  obtain ⟨v, h1, h2, h3⟩ := h
  exact ⟨v, (hb.block g (lt_of_block h1)).trans h1, h2.keep fun k hk => hb.block k (h2.block hk).2.1, h3⟩
theorem NewPost.pos {x : Nat} {w w' : World} {e : Ending} (h : NewPost (x : Int) w e w') : ∃ p, e = .returned (.pointer (some ⟨p, 0, none⟩)) ∧ Pos1 w' w.heap.size p x ∧ Below w.heap.size w w' := by
  obtain ⟨p, v, he, h1, h2, h3, h4, h5⟩ := h
  have hd : decide ((x : Int) < 0) = false := decide_eq_false (by omega)
  rw [hd] at h1
  exact ⟨p, he, ⟨v, h1, by simpa using h2, h4, h5⟩, h3⟩
theorem Pos1.mono {w : World} {base base' g M : Nat} (h : Pos1 w base g M) (hb : base' ≤ base) : Pos1 w base' g M := by
  obtain ⟨v, h1, h2, h3, h4⟩ := h
  exact ⟨v, h1, h2, Nat.le_trans hb h3, fun k hk => Nat.le_trans hb (h4 k hk)⟩
theorem Below.of_op {w0 w w' : World} {g : Nat} (hb : Below w0.heap.size w0 w) (hg : w0.heap.size ≤ g) (h : w'.os = w.os ∧ w'.tape = w.tape ∧ w'.output = w.output ∧ w.heap.size ≤ w'.heap.size ∧ ∀ k, k < w.heap.size → k ≠ g → w'.heap[k]? = w.heap[k]?) : Below w0.heap.size w0 w' := by
  obtain ⟨k1, k2, k3, k4, k5⟩ := h
  exact hb.trans ⟨k1, k2, k3, k4, fun k hk => k5 k (Nat.lt_of_lt_of_le hk hb.size) (by omega)⟩

/-- amount * rate / 10000, to the nearest, a half to the even side. -/
def rateOf (p : Nat) : Nat := if 10000 < 2 * (p % 10000) ∨ 2 * (p % 10000) = 10000 ∧ p / 10000 % 2 = 1 then p / 10000 + 1 else p / 10000
theorem rateOf_le {a r : Nat} (hr : r ≤ 10000) : rateOf (a * r) ≤ a := by
  have h : a * r ≤ a * 10000 := Nat.mul_le_mul_left a hr
  unfold rateOf
  generalize a * r = p at *
  split <;> omega
theorem int64_pos {base g M : Nat} {w : World} {v : Value} (hg : w.heap[g]? = some (.cells #[.bool false, v] 48 (0, 0))) (hN : Nv w base v M) (hM : M < 9223372036854775808) :
    Calls Tryz.prog 21 #[.pointer (some ⟨g, 0, none⟩)] w fun e w' => e = .returned (.int .i64 (M : Int)) ∧ w = w' := by
  have hd : decide ((M : Int) < 0) = false := decide_eq_false (by omega)
  refine (int64_any base g (M : Int) v w (by rw [hd]; exact hg) (by simpa using hN)).mono ?_
  rintro e w' ⟨rfl, rfl⟩
  exact ⟨by rw [show IntKind.i64.wrap (M : Int) = M from by simp only [IntKind.wrap_i64]; omega], rfl⟩
theorem newInt_pos (x : Nat) (w : World) (h : x < 9223372036854775808) : Calls Tryz.prog 19 #[.int .i64 x] w fun e w' => ∃ p, e = .returned (.pointer (some ⟨p, 0, none⟩)) ∧ Pos1 w' w.heap.size p x ∧ Below w.heap.size w w' :=
  (newInt_gen x w (by omega) (by omega)).mono fun _ _ h => h.pos
theorem mul_pos {base gs gx gy X Y : Nat} {w : World} (hz : w.heap[gs]? = some (.cells #[.bool false, .slice none 0 0] 48 (0, 0))) (hx : Pos1 w base gx X) (hy : Pos1 w base gy Y) (hb : base ≤ w.heap.size) (hs : base ≤ gs) (hxy : gx ≠ gy) (hsx : gs ≠ gx) (hsy : gs ≠ gy) :
    Calls Tryz.prog 18 #[.pointer (some ⟨gs, 0, none⟩), .pointer (some ⟨gx, 0, none⟩), .pointer (some ⟨gy, 0, none⟩)] w fun e w' => e = .returned (.pointer (some ⟨gs, 0, none⟩)) ∧ PosN w' base gs (X * Y) ∧
      (w'.os = w.os ∧ w'.tape = w.tape ∧ w'.output = w.output ∧ w.heap.size ≤ w'.heap.size ∧ ∀ k, k < w.heap.size → k ≠ gs → w'.heap[k]? = w.heap[k]?) := by
  obtain ⟨xv, hx1, hx2, _⟩ := hx
  obtain ⟨yv, hy1, hy2, _⟩ := hy
  refine (intMulW base gs gx gy X Y xv yv w hz hx1 hy1 hx2 hy2 hb hxy hsx hsy).mono ?_
  rintro e w' ⟨v', rfl, h1, h2, ⟨k1, k2, k3, k4, k5⟩, _⟩
  exact ⟨rfl, ⟨v', h1, h2, hs⟩, k1, k2, k3, k4, fun k hk hne => k5 k hk hne (by simp [Value.ownBlock])⟩
/-- Division by one word, as nat.div hands it on. -/
def DivOK (X d : Nat) : Prop := ∀ (base : Nat) (xv : Value) (w : World), Nv w base xv X → base ≤ w.heap.size → Calls Tryz.prog 116 #[.slice none 0 0, xv, .int .u64 d] w (DivWPost base (X / d) (X % d) w)
theorem divOK_word {X d : Nat} (hX : X < 18446744073709551616) (hd : 0 < d) (hd1 : d < 18446744073709551616) : DivOK X d := fun base xv w h hb => divW_nv base X d xv w h hX hd hd1 hb
/-- What DivMod leaves of numbers not below nought. -/
def DmPost (base gz gr q r : Nat) (w : World) (e : Ending) (w' : World) : Prop :=
  e = .returned (.tuple #[.pointer (some ⟨gz, 0, none⟩), .pointer (some ⟨gr, 0, none⟩)]) ∧ PosN w' base gz q ∧ PosN w' base gr r ∧
    (w'.os = w.os ∧ w'.tape = w.tape ∧ w'.output = w.output ∧ w.heap.size ≤ w'.heap.size ∧ ∀ k, k < w.heap.size → k ≠ gz → k ≠ gr → w'.heap[k]? = w.heap[k]?)
theorem divMod_pos {base gz gr gx gy X d : Nat} {w : World} (hz : w.heap[gz]? = some (.cells #[.bool false, .slice none 0 0] 48 (0, 0))) (hr : w.heap[gr]? = some (.cells #[.bool false, .slice none 0 0] 48 (0, 0))) (hx : PosN w base gx X) (hy : Pos1 w base gy d) (hb : base ≤ w.heap.size)
    (hX : DivOK X d) (hd : 0 < d) (hd1 : d < 18446744073709551616) (bz : base ≤ gz) (br : base ≤ gr) (zr : gz ≠ gr) (zx : gz ≠ gx) (zy : gz ≠ gy) (rx : gr ≠ gx) (ry : gr ≠ gy) :
    Calls Tryz.prog 20 #[.pointer (some ⟨gz, 0, none⟩), .pointer (some ⟨gx, 0, none⟩), .pointer (some ⟨gy, 0, none⟩), .pointer (some ⟨gr, 0, none⟩)] w (DmPost base gz gr (X / d) (X % d) w) := by
  obtain ⟨xv, hx1, hx2, _⟩ := hx
  obtain ⟨yv, hy1, hy2, _⟩ := hy
  obtain ⟨xA, xn, xc, rfl, _⟩ := hx2.form
  rcases hy2 with ⟨_, h0⟩ | ⟨h, rfl, o⟩
  · omega
  · refine (divMod_any base gz gr gx gy (X / d) (X % d) false false xA _ xn xc 1 1 w ⟨hz, hr, hx1, hy1, zr, zx, zy, rx, ry⟩ (fun n => natDiv_any base h 1 X d _ (w.drewN n) (Nat.lt_trans (Nat.mod_lt X hd) hd1) (hX base _ _ (hx2.keep fun _ _ => rfl) hb) ⟨_, _, _, rfl⟩ (o.keep rfl) hb)).mono ?_
    rintro e w' ⟨v, u, rfl, h1, h2, h3, h4, h5, _⟩
    exact ⟨rfl, ⟨v, h1, h3, bz⟩, ⟨u, h2, h4, br⟩, h5⟩
theorem fix_at {w w1 : World} {g : Nat} {o : Obj} (h : w1.heap[g]? = some o) (hb : Below w1.heap.size w1 w) : w.heap[g]? = some o := (hb.block g (lt_of_block h)).trans h
theorem ret_tup {a b : Int} (h : a = b) : Ending.returned (.tuple #[.int .i64 a, .nilIface]) = .returned (.tuple #[.int .i64 b, .nilIface]) := by rw [h]
theorem add_pos {base gs gy X x : Nat} {w0 w : World} (hx : PosN w0 base gs X) (hb : Below w0.heap.size w0 w) (hy : Pos1 w w0.heap.size gy x) (hl : base ≤ w.heap.size) (hX : X + x < 340282366920938463463374607431768211456) :
    Calls Tryz.prog 25 #[.pointer (some ⟨gs, 0, none⟩), .pointer (some ⟨gs, 0, none⟩), .pointer (some ⟨gy, 0, none⟩)] w fun e w' => e = .returned (.pointer (some ⟨gs, 0, none⟩)) ∧ PosN w' base gs (X + x) ∧ Below base w w' := by
  have hx' := hx.below hb
  obtain ⟨v, h1, h2, h3⟩ := hx'
  obtain ⟨yv, k1, k2, k3, k4⟩ := hy
  have hx0 := hx
  obtain ⟨v0, j1, j2, _⟩ := hx0
  have e0 : v = v0 := by
    have := (hb.block gs (lt_of_block j1)).trans j1
    rw [h1] at this
    injection this with this; injection this with this _ _; injection this with this; injection this with _ this; injection this
  subst e0
  have dX : decide ((X : Int) < 0) = false := decide_eq_false (by omega)
  have dx : decide ((x : Int) < 0) = false := decide_eq_false (by omega)
  have hne : yv.ownBlock = none ∨ v.ownBlock ≠ yv.ownBlock := by
    cases hk : yv.ownBlock with
    | none => exact .inl rfl
    | some k =>
      refine .inr fun e => ?_
      have := k4 k hk
      have := (j2.block e).2.1
      omega
  refine (bigAddW base gs gy (X : Int) (x : Int) v yv w (by rw [dX]; exact h1) (by simpa using h2) (by rw [dx]; exact k1) (by simpa using k2) hne hl (by simp; omega)).mono ?_
  rintro e w' ⟨v', rfl, m1, m2, ⟨f1, f2, f3, f4, f5⟩, _⟩
  have dXx : decide ((X : Int) + (x : Int) < 0) = false := decide_eq_false (by omega)
  rw [dXx] at m1
  refine ⟨rfl, ⟨v', m1, ?_, h3⟩, f1, f2, f3, f4, fun k hk => f5 k (by omega) (by omega) fun e => ?_⟩
  · have : ((X : Int) + (x : Int)).natAbs = X + x := by omega
    rwa [this] at m2
  · have := (h2.block e.symm).1
    omega

set_option maxRecDepth 100000 in
set_option maxHeartbeats 2000000 in
theorem rate_any (a r : Nat) (w : World) (ha : a ≤ 9223372036854775807) (hr : r ≤ 10000) (hp : a * r < 18446744073709551616) :
    Calls Tryz.prog 14 #[.int .i64 a, .int .i64 r] w fun e w' => e = .returned (.tuple #[.int .i64 ((rateOf (a * r) : Nat) : Int), .nilIface]) ∧ Below w.heap.size w w' := by
  have HLE := Lib.hid (rateOf_le (a := a) hr)
  have d0 : decide ((r : Int) < 0) = false := decide_eq_false (by omega)
  have d1 : decide ((10000 : Int) < (r : Int)) = false := decide_eq_false (by omega)
  have z1 : (w.alloc (.cells #[.bool false, .slice none 0 0] 48)).heap[w.heap.size]? = some (.cells #[.bool false, .slice none 0 0] 48 (0, 0)) := heap_alloc_new w _
  have b1 : Below w.heap.size w (w.alloc (.cells #[.bool false, .slice none 0 0] 48)) := Below.new w _
  have Z1 := Lib.hid z1; have B1 := Lib.hid b1
  have HA := Lib.hid ha; have HR := Lib.hid hr; have HP := Lib.hid hp
  clear z1 b1 ha hr hp
  have GE : w.heap.size < (w.alloc (.cells #[.bool false, .slice none 0 0] 48)).heap.size := by simp
  go_enter Tryz.func14, Tryz.ntmps14
  go_wp2_with fail
  generalize w.alloc (.cells #[.bool false, .slice none 0 0] 48) = w1 at *
  refine (newInt_pos a w1 (by have := HA.out; omega)).mono ?_
  rintro e w2 ⟨p, rfl, hp2, hb2⟩
  have s12 := hb2.size
  have gp : w1.heap.size ≤ p := by obtain ⟨_, _, _, h, _⟩ := hp2; exact h
  have lp : p < w2.heap.size := hp2.lt
  have Z2 := Lib.hid (fix_at Z1.out hb2)
  have P2 := Lib.hid (hp2.mono (base' := w.heap.size) (by omega))
  have B2 := Lib.hid (B1.out.trans (hb2.mono (Nat.le_of_lt GE)))
  clear hp2 hb2 Z1 B1
  go_wp2_with fail
  refine (newInt_pos r w2 (by have := HR.out; omega)).mono ?_
  rintro e w3 ⟨p3, rfl, hp3, hb3⟩
  have s23 := hb3.size
  have gp3 : w2.heap.size ≤ p3 := by obtain ⟨_, _, _, h, _⟩ := hp3; exact h
  have Z3 := Lib.hid (fix_at Z2.out hb3)
  have P2' := Lib.hid (P2.out.below hb3)
  have P3 := Lib.hid (hp3.mono (base' := w.heap.size) (by omega))
  have B3 := Lib.hid (B2.out.trans (hb3.mono (by omega)))
  clear hp3 hb3 Z2 P2 B2
  have a1 := mul_pos (base := w.heap.size) (gs := w.heap.size) (gx := p) (gy := p3) (X := a) (Y := r) (w := w3) Z3.out P2'.out P3.out (by omega) (Nat.le_refl _) (by omega) (by omega) (by omega)
  clear Z3 P2' P3
  go_wp2_with fail
  refine a1.mono ?_
  clear a1
  rintro e w4 ⟨rfl, hx, hfr⟩
  have s34 := hfr.2.2.2.1
  have B4 := Lib.hid (Below.of_op B3.out (Nat.le_refl _) hfr)
  have X4 := Lib.hid hx
  clear hx hfr B3
  have z5 : (w4.alloc (.cells #[.bool false, .slice none 0 0] 48)).heap[w4.heap.size]? = some (.cells #[.bool false, .slice none 0 0] 48 (0, 0)) := heap_alloc_new w4 _
  have b5 : Below w4.heap.size w4 (w4.alloc (.cells #[.bool false, .slice none 0 0] 48)) := Below.new w4 _
  have Z5 := Lib.hid z5
  have X5 := Lib.hid (X4.out.below b5)
  have B5 := Lib.hid (B4.out.trans (b5.mono (by omega)))
  have GE5 : w4.heap.size < (w4.alloc (.cells #[.bool false, .slice none 0 0] 48)).heap.size := by simp
  clear z5 b5 X4 B4
  go_wp2_with fail
  generalize w4.alloc (.cells #[.bool false, .slice none 0 0] 48) = w5 at *
  refine (newInt_pos 10000 w5 (by omega)).mono ?_
  rintro e w6 ⟨p6, rfl, hp6, hb6⟩
  have s56 := hb6.size
  have gp6 : w5.heap.size ≤ p6 := by obtain ⟨_, _, _, h, _⟩ := hp6; exact h
  have lp6 : p6 < w6.heap.size := hp6.lt
  have Z6 := Lib.hid (fix_at Z5.out hb6)
  have X6 := Lib.hid (X5.out.below hb6)
  have P6 := Lib.hid (hp6.mono (base' := w.heap.size) (by omega))
  have B6 := Lib.hid (B5.out.trans (hb6.mono (by omega)))
  have b7 : Below w6.heap.size w6 (w6.alloc (.cells #[.bool false, .slice none 0 0] 48)) := Below.new w6 _
  have z7 : (w6.alloc (.cells #[.bool false, .slice none 0 0] 48)).heap[w6.heap.size]? = some (.cells #[.bool false, .slice none 0 0] 48 (0, 0)) := heap_alloc_new w6 _
  have Z7 := Lib.hid z7
  have Z7' := Lib.hid (fix_at Z6.out b7)
  have X7 := Lib.hid (X6.out.below b7)
  have P7 := Lib.hid (P6.out.below b7)
  have B7 := Lib.hid (B6.out.trans (b7.mono (by omega)))
  have GE7 : w6.heap.size < (w6.alloc (.cells #[.bool false, .slice none 0 0] 48)).heap.size := by simp
  clear hp6 hb6 z7 b7 Z5 X5 B5 Z6 X6 P6 B6
  go_wp2_with fail
  generalize w6.alloc (.cells #[.bool false, .slice none 0 0] 48) = w7 at *
  have a2 := divMod_pos (base := w.heap.size) (gz := w4.heap.size) (gr := w6.heap.size) (gx := w.heap.size) (gy := p6) (X := a * r) (d := 10000) (w := w7) Z7'.out Z7.out X7.out P7.out (by omega) (divOK_word HP.out (by omega) (by omega)) (by omega) (by omega) (by omega) (by omega) (by omega) (by omega) (by omega) (by omega) (by omega)
  clear Z7 Z7' X7 P7
  refine a2.mono ?_
  clear a2
  rintro e w8 ⟨rfl, hq, hr, hfr⟩
  have s78 := hfr.2.2.2.1
  have B8 : Hid (Below w.heap.size w w8) := by
    obtain ⟨k1, k2, k3, k4, k5⟩ := hfr
    exact B7.out.trans ⟨k1, k2, k3, k4, fun k hk => k5 k (by omega) (by omega) (by omega)⟩
  clear hfr B7
  generalize hgz : w4.heap.size = gz at *
  generalize hgr : w6.heap.size = gr at *
  have gez : w.heap.size ≤ gz := by omega
  have ger : w.heap.size ≤ gr := by omega
  clear hgz hgr s12 gp lp s23 gp3 s34 GE5 s56 gp6 lp6 GE7 s78 GE
  have H8 := Lib.hid hq
  have hp := HP.out
  have hr' := hr
  generalize hP : a * r = P at *
  have HPP := Lib.hid hP
  clear hP
  have hq10 : P / 10000 < 9223372036854775808 := by omega
  have hr10 : P % 10000 < 10000 := Nat.mod_lt _ (by decide)
  have a3 : Calls Tryz.prog 21 #[.pointer (some ⟨gr, 0, none⟩)] w8 fun e w' => e = .returned (.int .i64 ((P % 10000 : Nat) : Int)) ∧ w8 = w' := by
    obtain ⟨v, k1, k2, _⟩ := hr
    exact int64_pos k1 k2 (by omega)
  have a4 : Calls Tryz.prog 31 #[.pointer (some ⟨gz, 0, none⟩), .int .i64 0] w8 fun e w' => e = .returned (.int .u64 ((P / 10000 % 2 : Nat) : Int)) ∧ w8 = w' := by
    obtain ⟨v, k1, k2, _⟩ := hq
    exact bit0_any _ gz _ false v w8 k1 k2
  have a5 : Calls Tryz.prog 21 #[.pointer (some ⟨gz, 0, none⟩)] w8 fun e w' => e = .returned (.int .i64 ((P / 10000 : Nat) : Int)) ∧ w8 = w' := by
    obtain ⟨v, k1, k2, _⟩ := hq
    exact int64_pos k1 k2 hq10
  have A6 := Lib.hid (newInt_pos 1 w8 (by decide))
  clear hq hr hr' hp HP HR
  have HRO := Lib.hid (show rateOf P = if 10000 < 2 * (P % 10000) ∨ 2 * (P % 10000) = 10000 ∧ P / 10000 % 2 = 1 then P / 10000 + 1 else P / 10000 from rfl)
  have hm2 : P / 10000 % 2 < 2 := Nat.mod_lt _ (by decide)
  generalize hqq : P / 10000 = q at *
  generalize hrr : P % 10000 = rr at *
  clear hqq hrr
  have HM := Lib.hid (show ∃ m, m = q % 2 from ⟨_, rfl⟩)
  obtain ⟨m, hm⟩ := HM.out
  rw [← hm] at a4 hm2
  have HRO := Lib.hid (by rw [hm]; exact HRO.out : rateOf P = if 10000 < 2 * rr ∨ 2 * rr = 10000 ∧ m = 1 then q + 1 else q)
  clear hm HM
  by_cases c1 : 10000 < 2 * rr
  · have d2 : decide ((10000 : Int) < 2 * (rr : Int)) = true := decide_eq_true (by omega)
    have HR1 := Lib.hid (HRO.out.trans (if_pos (.inl c1)))
    clear c1 HRO
    clear a4 a5
    go_wp2_with fail
    refine a3.mono ?_
    clear a3
    rintro e w9 ⟨rfl, rfl⟩
    go_wp2_with fail
    refine A6.out.mono ?_
    rintro e w9 ⟨p9, rfl, hp9, hb9⟩
    have a7 := add_pos (base := w.heap.size) (gs := gz) (gy := p9) (X := q) (x := 1) H8.out hb9 hp9 (by have := B8.out.size; have := hb9.size; omega) (by omega)
    have B9 := Lib.hid (B8.out.trans (hb9.mono B8.out.size))
    clear hp9 hb9
    go_wp2_with fail
    refine a7.mono ?_
    clear a7
    rintro e w10 ⟨rfl, h10, b10⟩
    have B10 := Lib.hid (B9.out.trans b10)
    have a8 : Calls Tryz.prog 21 #[.pointer (some ⟨gz, 0, none⟩)] w10 fun e w' => e = .returned (.int .i64 ((q + 1 : Nat) : Int)) ∧ w10 = w' := by
      obtain ⟨v, k1, k2, _⟩ := h10
      exact int64_pos k1 k2 (by have := HR1.out; have := HLE.out; have := HA.out; omega)
    clear h10 b10
    go_wp2_with fail
    refine a8.mono ?_
    clear a8
    rintro e w11 ⟨rfl, rfl⟩
    go_wp2
    go_ret2
    exact ⟨ret_tup (by rw [HPP.out, HR1.out]; omega), B10.out⟩
  · have d2 : decide ((10000 : Int) < 2 * (rr : Int)) = false := decide_eq_false (by omega)
    by_cases c2 : 2 * rr = 10000
    · have d3 : (2 * (rr : Int) == 10000) = true := beq_iff_eq.2 (by omega)
      by_cases c3 : m = 1
      · have d4 : ((m : Int) == 1) = true := beq_iff_eq.2 (by omega)
        have HR1 := Lib.hid (HRO.out.trans (if_pos (.inr ⟨c2, c3⟩)))
        clear c1 c2 c3 HRO
        clear a5
        go_wp2_with fail
        refine a3.mono ?_
        clear a3
        rintro e w9 ⟨rfl, rfl⟩
        go_wp2_with fail
        refine a4.mono ?_
        clear a4
        rintro e w9 ⟨rfl, rfl⟩
        go_wp2_with fail
        refine A6.out.mono ?_
        rintro e w9 ⟨p9, rfl, hp9, hb9⟩
        have a7 := add_pos (base := w.heap.size) (gs := gz) (gy := p9) (X := q) (x := 1) H8.out hb9 hp9 (by have := B8.out.size; have := hb9.size; omega) (by omega)
        have B9 := Lib.hid (B8.out.trans (hb9.mono B8.out.size))
        clear hp9 hb9
        go_wp2_with fail
        refine a7.mono ?_
        clear a7
        rintro e w10 ⟨rfl, h10, b10⟩
        have B10 := Lib.hid (B9.out.trans b10)
        have a8 : Calls Tryz.prog 21 #[.pointer (some ⟨gz, 0, none⟩)] w10 fun e w' => e = .returned (.int .i64 ((q + 1 : Nat) : Int)) ∧ w10 = w' := by
          obtain ⟨v, k1, k2, _⟩ := h10
          exact int64_pos k1 k2 (by have := HR1.out; have := HLE.out; have := HA.out; omega)
        clear h10 b10
        go_wp2_with fail
        refine a8.mono ?_
        clear a8
        rintro e w11 ⟨rfl, rfl⟩
        go_wp2
        go_ret2
        exact ⟨ret_tup (by rw [HPP.out, HR1.out]; omega), B10.out⟩
      · have d4 : ((m : Int) == 1) = false := beq_eq_false_iff_ne.2 (by omega)
        have HR1 := Lib.hid (HRO.out.trans (if_neg (fun h => h.elim c1 fun h => c3 h.2)))
        clear c1 c2 c3 HRO
        clear A6
        go_wp2_with fail
        refine a3.mono ?_
        clear a3
        rintro e w9 ⟨rfl, rfl⟩
        go_wp2_with fail
        refine a4.mono ?_
        clear a4
        rintro e w9 ⟨rfl, rfl⟩
        go_wp2_with fail
        refine a5.mono ?_
        clear a5
        rintro e w11 ⟨rfl, rfl⟩
        go_wp2
        go_ret2
        exact ⟨ret_tup (by rw [HPP.out, HR1.out]), B8.out⟩
    · have d3 : (2 * (rr : Int) == 10000) = false := beq_eq_false_iff_ne.2 (by omega)
      have HR1 := Lib.hid (HRO.out.trans (if_neg (fun h => h.elim c1 fun h => c2 h.1)))
      clear c1 c2 HRO a4
      clear A6
      go_wp2_with fail
      refine a3.mono ?_
      clear a3
      rintro e w9 ⟨rfl, rfl⟩
      go_wp2_with fail
      refine a5.mono ?_
      clear a5
      rintro e w11 ⟨rfl, rfl⟩
      go_wp2
      go_ret2
      exact ⟨ret_tup (by rw [HPP.out, HR1.out]), B8.out⟩
end Go.Proofs.YthkobjbemmllfaaGreatDoor
