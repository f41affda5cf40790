/- get: what the Reader answers is the document's answer: walked, a kind a theorem. -/
import Derived.Test.YtnodjcapclkmhaaDoorGet3
import Derived.Test.YtnodjcapclkmhaaDoorShortW
namespace Go.Proofs.YtnodjcapclkmhaaDoor
open Go.RowKit

/-- What get leaves where no list is handed out: the answer is right, the Reader stands at the place that is told. -/
def GtPost (g : Nat) (s : ByteArray) (w : World) (e : Ending) (w' : World) : Prop := ∃ q : Nat, e = .returned (.tuple #[.int .i64 q, .bool true]) ∧ q ≤ s.size ∧ Rdr w' g s q ∧ Wrote w w' g none none
theorem GtPost.mk {g q : Nat} {s : ByteArray} {w w' : World} {e : Ending} (h : e = .returned (.tuple #[.int .i64 q, .bool true])) (hq : q ≤ s.size) (hr : Rdr w' g s q) (hw : Wrote w w' g none none) : GtPost g s w e w' := ⟨q, h, hq, hr, hw⟩
theorem gt_u (Bf : Nat → Addr) {s : ByteArray} {p : Nat} {R : Except Nat (Nat × Nat)} (hp : p ≤ s.size) (h1 : ∀ e, R = .error e → e ≤ 37) (h2 : ∀ x q, R = .ok (x, q) → q ≤ s.size) :
    ∃ x e q : Nat, uV Bf R = .tuple #[.int .u64 x, ev Bf e] ∧ bV Bf R = .tuple #[.int .u8 x, ev Bf e] ∧ nV Bf R = .tuple #[.int .i64 x, ev Bf e] ∧ gU p R = .tuple #[.int .u64 x, .int .i64 q, .int .i64 e] ∧ g3 (.int .i64 0) (fun x => .int .i64 (x : Nat)) p R = .tuple #[.int .i64 x, .int .i64 q, .int .i64 e] ∧ uP p R = q ∧ e ≤ 37 ∧ q ≤ s.size ∧ (R = .error e ∧ x = 0 ∨ R = .ok (x, q)) := by
  cases R with
  | error e => exact ⟨0, e, p, rfl, rfl, rfl, rfl, rfl, rfl, h1 e rfl, hp, .inl ⟨rfl, rfl⟩⟩
  | ok y => exact ⟨y.1, 0, y.2, rfl, rfl, rfl, rfl, rfl, rfl, by decide, h2 _ _ rfl, .inr rfl⟩
theorem gt_i (Bf : Nat → Addr) {s : ByteArray} {p : Nat} {R : Except Nat (Int × Nat)} (hp : p ≤ s.size) (h1 : ∀ e, R = .error e → e ≤ 37) (h2 : ∀ x q, R = .ok (x, q) → q ≤ s.size) :
    ∃ (x : Int) (e q : Nat), iV Bf R = .tuple #[.int .i64 x, ev Bf e] ∧ g3 (.int .i64 0) (fun x => .int .i64 x) p R = .tuple #[.int .i64 x, .int .i64 q, .int .i64 e] ∧ uP p R = q ∧ e ≤ 37 ∧ q ≤ s.size := by
  cases R with
  | error e => exact ⟨0, e, p, rfl, rfl, rfl, h1 e rfl, hp⟩
  | ok y => exact ⟨y.1, 0, y.2, rfl, rfl, rfl, by decide, h2 _ _ rfl⟩
theorem gt_t (Bf : Nat → Addr) {s : ByteArray} {p : Nat} {R : Except Nat (ByteArray × Nat)} (hp : p ≤ s.size) (h1 : ∀ e, R = .error e → e ≤ 37) (h2 : ∀ x q, R = .ok (x, q) → q ≤ s.size) :
    ∃ (x : ByteArray) (e q : Nat), tV Bf R = .tuple #[.string x, ev Bf e] ∧ g3 (.string ⟨#[]⟩) .string p R = .tuple #[.string x, .int .i64 q, .int .i64 e] ∧ uP p R = q ∧ e ≤ 37 ∧ q ≤ s.size := by
  cases R with
  | error e => exact ⟨⟨#[]⟩, e, p, rfl, rfl, rfl, h1 e rfl, hp⟩
  | ok y => exact ⟨y.1, 0, y.2, rfl, rfl, rfl, by decide, h2 _ _ rfl⟩
theorem uP_map (p : Nat) (R : Except Nat (Nat × Nat)) : uP p R = uP p (mapG unz R) := by cases R <;> rfl
theorem lowG_le {s : ByteArray} {p n x q : Nat} (hp : p ≤ s.size) (h : lowG s p n = .ok (x, q)) : q ≤ s.size := by
  obtain ⟨_, rfl, h3⟩ := lowG_ok h
  omega
theorem low1_wrap {s : ByteArray} {p x e q : Nat} (h : lowG s p 1 = .error e ∧ x = 0 ∨ lowG s p 1 = .ok (x, q)) : IntKind.u64.wrap (x : Int) = (x : Int) := by
  have hx : x < 256 := by
    rcases h with ⟨_, rfl⟩ | h
    · decide
    · exact (lowG_ok h).1
  rw [IntKind.wrap_u64]; omega

set_option maxRecDepth 100000 in
set_option maxHeartbeats 2000000 in
theorem get_1 (Bf : Nat → Addr) (B g gl : Nat) (s : ByteArray) (p : Nat) (o : OpV) (w : World) (hE : EnvB B w Bf) (hg : B ≤ g) (hR : Rdr w g s p) (hp : p ≤ s.size) (hs : s.size ≤ 4398046511104) (ho : o.In) (hk : o.k = 1) :
    Calls Tryd.prog 22 #[.pointer (some ⟨g, 0, none⟩), .string s, .int .i64 p, o.val, .pointer (some ⟨gl, 0, none⟩)] w (GtPost g s w) := by
  obtain ⟨k, sec, u, i, n, m, t, A, ln, lc, ss⟩ := o
  obtain ⟨hn, hm⟩ := ho
  simp only at hk hn hm
  subst hk
  unfold OpV.val
  simp only
  have hB := hE.lt
  have hgl := hR.cells.2.2.2
  have hb := Below.new w (.cells #[.int .i64 1, .bool sec, .int .u64 u, .int .i64 i, .int .i64 n, .int .i64 m, .string t, .slice A ln lc] 30)
  have HB0 := Lib.hid (Wrote.of_below hb g none)
  have HX := Lib.hid (box_cells w (.int .i64 1) (.bool sec) (.int .u64 u) (.int .i64 i) (.int .i64 n) (.int .i64 m) (.string t) (.slice A ln lc))
  have hE1 := hE.below (hb.mono hB)
  have HE1 := Lib.hid hE1
  have a1 := rUint_any Bf B g s p _ hE1 hg (hR.below hb) hp (by omega)
  have a2 := fun w => getUint_any s p w hp (by omega)
  have he := True.intro
  obtain ⟨x, e, q, r1, _, _, r2, _, r3, he2, hq, _⟩ := gt_u Bf hp (fun e h => by have := uG_err h; omega) (fun x q h => (uG_ok h).2.2)
  rw [r1, r3] at a1
  simp only [r2] at a2
  have a3 := fun w hE => num_any Bf w hE e he2
  generalize ev Bf e = V at *
  clear hb hE hR hE1 he r1 r2 r3 he2
  go_enter Tryd.func22, Tryd.ntmps22
  go_wp2_with fail
  refine a1.mono ?_
  rintro e1 w1 ⟨rfl, h1, h2⟩
  have HE2 := Lib.hid (HE1.out.wrote h2 hg (fun k hk => by cases hk)).env
  have H1 := Lib.hid h1; have H2 := Lib.hid (HB0.out.trans h2); clear h1 h2 a1
  go_wp2_with fail
  refine (a2 w1).mono ?_
  rintro e2 w2 ⟨rfl, rfl⟩
  go_wp2_with fail
  refine (a3 _ HE2.out).mono ?_
  rintro e3 w3 ⟨rfl, hb3⟩
  have H3 := Lib.hid (H1.out.below hb3)
  have H4 := Lib.hid (H2.out.trans (Wrote.of_below hb3 g none))
  clear hb3
  go_wp2
  go_ret2
  exact GtPost.mk rfl hq H3.out H4.out

set_option maxRecDepth 100000 in
set_option maxHeartbeats 2000000 in
theorem get_8 (Bf : Nat → Addr) (B g gl : Nat) (s : ByteArray) (p : Nat) (o : OpV) (w : World) (hE : EnvB B w Bf) (hg : B ≤ g) (hR : Rdr w g s p) (hp : p ≤ s.size) (hs : s.size ≤ 4398046511104) (ho : o.In) (hk : o.k = 8) :
    Calls Tryd.prog 22 #[.pointer (some ⟨g, 0, none⟩), .string s, .int .i64 p, o.val, .pointer (some ⟨gl, 0, none⟩)] w (GtPost g s w) := by
  obtain ⟨k, sec, u, i, n, m, t, A, ln, lc, ss⟩ := o
  obtain ⟨hn, hm⟩ := ho
  simp only at hk hn hm
  subst hk
  unfold OpV.val
  simp only
  have hB := hE.lt
  have hgl := hR.cells.2.2.2
  have hb := Below.new w (.cells #[.int .i64 8, .bool sec, .int .u64 u, .int .i64 i, .int .i64 n, .int .i64 m, .string t, .slice A ln lc] 30)
  have HB0 := Lib.hid (Wrote.of_below hb g none)
  have HX := Lib.hid (box_cells w (.int .i64 8) (.bool sec) (.int .u64 u) (.int .i64 i) (.int .i64 n) (.int .i64 m) (.string t) (.slice A ln lc))
  have hE1 := hE.below (hb.mono hB)
  have HE1 := Lib.hid hE1
  have a1 := rUpto_any Bf B g s p n _ hE1 hg (hR.below hb) hp (by omega) hn
  have a2 := fun w => getUpto_any s p n w hp (by omega) hn
  have he := True.intro
  obtain ⟨x, e, q, _, _, r1, _, r2, r3, he2, hq, _⟩ := gt_u Bf hp (fun e h => by have := upG_err h; omega) (fun x q h => (upG_ok h).2.2.1)
  rw [r1, r3] at a1
  simp only [r2] at a2
  have a3 := fun w hE => num_any Bf w hE e he2
  generalize ev Bf e = V at *
  clear hb hE hR hE1 he r1 r2 r3 he2
  go_enter Tryd.func22, Tryd.ntmps22
  go_wp2_with fail
  refine a1.mono ?_
  rintro e1 w1 ⟨rfl, h1, h2⟩
  obtain ⟨x0, x1, x2, x3, x4, x5, x6, x7⟩ := box8 ((h2.block _ (by simp) (by omega) (by simp)).trans HX.out)
  have HE2 := Lib.hid (HE1.out.wrote h2 hg (fun k hk => by cases hk)).env
  have H1 := Lib.hid h1; have H2 := Lib.hid (HB0.out.trans h2); clear h1 h2 a1
  go_wp2_with fail
  refine (a2 w1).mono ?_
  rintro e2 w2 ⟨rfl, rfl⟩
  go_wp2_with fail
  refine (a3 _ HE2.out).mono ?_
  rintro e3 w3 ⟨rfl, hb3⟩
  have H3 := Lib.hid (H1.out.below hb3)
  have H4 := Lib.hid (H2.out.trans (Wrote.of_below hb3 g none))
  clear hb3
  go_wp2
  go_ret2
  exact GtPost.mk rfl hq H3.out H4.out

set_option maxRecDepth 100000 in
set_option maxHeartbeats 2000000 in
theorem get_2 (Bf : Nat → Addr) (B g gl : Nat) (s : ByteArray) (p : Nat) (o : OpV) (w : World) (hE : EnvB B w Bf) (hg : B ≤ g) (hR : Rdr w g s p) (hp : p ≤ s.size) (hs : s.size ≤ 4398046511104) (ho : o.In) (hk : o.k = 2) :
    Calls Tryd.prog 22 #[.pointer (some ⟨g, 0, none⟩), .string s, .int .i64 p, o.val, .pointer (some ⟨gl, 0, none⟩)] w (GtPost g s w) := by
  obtain ⟨k, sec, u, i, n, m, t, A, ln, lc, ss⟩ := o
  obtain ⟨hn, hm⟩ := ho
  simp only at hk hn hm
  subst hk
  unfold OpV.val
  simp only
  have hB := hE.lt
  have hgl := hR.cells.2.2.2
  have hb := Below.new w (.cells #[.int .i64 2, .bool sec, .int .u64 u, .int .i64 i, .int .i64 n, .int .i64 m, .string t, .slice A ln lc] 30)
  have HB0 := Lib.hid (Wrote.of_below hb g none)
  have HX := Lib.hid (box_cells w (.int .i64 2) (.bool sec) (.int .u64 u) (.int .i64 i) (.int .i64 n) (.int .i64 m) (.string t) (.slice A ln lc))
  have hE1 := hE.below (hb.mono hB)
  have HE1 := Lib.hid hE1
  have a1 := (by have h := rInt_any Bf B g s p _ hE1 hg (hR.below hb) hp (by omega); rw [uP_map] at h; exact h)
  have a2 := fun w => getInt_any s p w hp (by omega)
  have he := True.intro
  obtain ⟨x, e, q, r1, r2, r3, he2, hq⟩ := gt_i Bf (R := mapG unz (uG s p 0 0)) hp (fun e h => by cases hu : uG s p 0 0 with | error e2 => (rw [hu] at h; obtain rfl := Except.error.inj h; have := uG_err hu; omega) | ok y => (rw [hu] at h; cases h)) (fun x q h => by cases hu : uG s p 0 0 with | error e2 => (rw [hu] at h; cases h) | ok y => (rw [hu] at h; obtain ⟨_, rfl⟩ := Prod.mk.inj (Except.ok.inj h); exact (uG_ok (y := y.1) (q := y.2) hu).2.2))
  rw [r1, r3] at a1
  simp only [r2] at a2
  have a3 := fun w hE => num_any Bf w hE e he2
  generalize ev Bf e = V at *
  clear hb hE hR hE1 he r1 r2 r3 he2
  go_enter Tryd.func22, Tryd.ntmps22
  go_wp2_with fail
  refine a1.mono ?_
  rintro e1 w1 ⟨rfl, h1, h2⟩
  have HE2 := Lib.hid (HE1.out.wrote h2 hg (fun k hk => by cases hk)).env
  have H1 := Lib.hid h1; have H2 := Lib.hid (HB0.out.trans h2); clear h1 h2 a1
  go_wp2_with fail
  refine (a2 w1).mono ?_
  rintro e2 w2 ⟨rfl, rfl⟩
  go_wp2_with fail
  refine (a3 _ HE2.out).mono ?_
  rintro e3 w3 ⟨rfl, hb3⟩
  have H3 := Lib.hid (H1.out.below hb3)
  have H4 := Lib.hid (H2.out.trans (Wrote.of_below hb3 g none))
  clear hb3
  go_wp2
  go_ret2
  exact GtPost.mk rfl hq H3.out H4.out

set_option maxRecDepth 100000 in
set_option maxHeartbeats 2000000 in
theorem get_3 (Bf : Nat → Addr) (B g gl : Nat) (s : ByteArray) (p : Nat) (o : OpV) (w : World) (hE : EnvB B w Bf) (hg : B ≤ g) (hR : Rdr w g s p) (hp : p ≤ s.size) (hs : s.size ≤ 4398046511104) (ho : o.In) (hk : o.k = 3) :
    Calls Tryd.prog 22 #[.pointer (some ⟨g, 0, none⟩), .string s, .int .i64 p, o.val, .pointer (some ⟨gl, 0, none⟩)] w (GtPost g s w) := by
  obtain ⟨k, sec, u, i, n, m, t, A, ln, lc, ss⟩ := o
  obtain ⟨hn, hm⟩ := ho
  simp only at hk hn hm
  subst hk
  unfold OpV.val
  simp only
  have hB := hE.lt
  have hgl := hR.cells.2.2.2
  have hb := Below.new w (.cells #[.int .i64 3, .bool sec, .int .u64 u, .int .i64 i, .int .i64 n, .int .i64 m, .string t, .slice A ln lc] 30)
  have HB0 := Lib.hid (Wrote.of_below hb g none)
  have HX := Lib.hid (box_cells w (.int .i64 3) (.bool sec) (.int .u64 u) (.int .i64 i) (.int .i64 n) (.int .i64 m) (.string t) (.slice A ln lc))
  have hE1 := hE.below (hb.mono hB)
  have HE1 := Lib.hid hE1
  have a1 := rFixed_any Bf B g s p _ hE1 hg (hR.below hb) hp (by omega)
  have a2 := fun w => getLow_any s p 8 w hp (by omega) (by decide)
  have he := True.intro
  obtain ⟨x, e, q, r1, _, _, r2, _, r3, he2, hq, _⟩ := gt_u Bf hp (fun e h => by have := lowG_err h; omega) (fun x q h => lowG_le hp h)
  rw [r1, r3] at a1
  simp only [r2] at a2
  have a3 := fun w hE => num_any Bf w hE e he2
  generalize ev Bf e = V at *
  clear hb hE hR hE1 he r1 r2 r3 he2
  go_enter Tryd.func22, Tryd.ntmps22
  go_wp2_with fail
  refine a1.mono ?_
  rintro e1 w1 ⟨rfl, h1, h2⟩
  have HE2 := Lib.hid (HE1.out.wrote h2 hg (fun k hk => by cases hk)).env
  have H1 := Lib.hid h1; have H2 := Lib.hid (HB0.out.trans h2); clear h1 h2 a1
  go_wp2_with fail
  refine (a2 w1).mono ?_
  rintro e2 w2 ⟨rfl, rfl⟩
  go_wp2_with fail
  refine (a3 _ HE2.out).mono ?_
  rintro e3 w3 ⟨rfl, hb3⟩
  have H3 := Lib.hid (H1.out.below hb3)
  have H4 := Lib.hid (H2.out.trans (Wrote.of_below hb3 g none))
  clear hb3
  go_wp2
  go_ret2
  exact GtPost.mk rfl hq H3.out H4.out

set_option maxRecDepth 100000 in
set_option maxHeartbeats 2000000 in
theorem get_4 (Bf : Nat → Addr) (B g gl : Nat) (s : ByteArray) (p : Nat) (o : OpV) (w : World) (hE : EnvB B w Bf) (hg : B ≤ g) (hR : Rdr w g s p) (hp : p ≤ s.size) (hs : s.size ≤ 4398046511104) (ho : o.In) (hk : o.k = 4) :
    Calls Tryd.prog 22 #[.pointer (some ⟨g, 0, none⟩), .string s, .int .i64 p, o.val, .pointer (some ⟨gl, 0, none⟩)] w (GtPost g s w) := by
  obtain ⟨k, sec, u, i, n, m, t, A, ln, lc, ss⟩ := o
  obtain ⟨hn, hm⟩ := ho
  simp only at hk hn hm
  subst hk
  unfold OpV.val
  simp only
  have hB := hE.lt
  have hgl := hR.cells.2.2.2
  have hb := Below.new w (.cells #[.int .i64 4, .bool sec, .int .u64 u, .int .i64 i, .int .i64 n, .int .i64 m, .string t, .slice A ln lc] 30)
  have HB0 := Lib.hid (Wrote.of_below hb g none)
  have HX := Lib.hid (box_cells w (.int .i64 4) (.bool sec) (.int .u64 u) (.int .i64 i) (.int .i64 n) (.int .i64 m) (.string t) (.slice A ln lc))
  have hE1 := hE.below (hb.mono hB)
  have HE1 := Lib.hid hE1
  have a1 := rByte_any Bf B g s p _ hE1 hg (hR.below hb) hp (by omega)
  have a2 := fun w => getLow_any s p 1 w hp (by omega) (by decide)
  have he := True.intro
  obtain ⟨x, e, q, _, r1, _, r2, _, r3, he2, hq, hx⟩ := gt_u Bf hp (fun e h => by have := lowG_err h; omega) (fun x q h => lowG_le hp h)
  rw [r1, r3] at a1
  simp only [r2] at a2
  have a3 := fun w hE => num_any Bf w hE e he2
  have hx2 : IntKind.u64.wrap (x : Int) = (x : Int) := low1_wrap hx
  clear hx
  generalize ev Bf e = V at *
  clear hb hE hR hE1 he r1 r2 r3 he2
  go_enter Tryd.func22, Tryd.ntmps22
  go_wp2_with fail
  refine a1.mono ?_
  rintro e1 w1 ⟨rfl, h1, h2⟩
  have HE2 := Lib.hid (HE1.out.wrote h2 hg (fun k hk => by cases hk)).env
  have H1 := Lib.hid h1; have H2 := Lib.hid (HB0.out.trans h2); clear h1 h2 a1
  go_wp2_with fail
  refine (a2 w1).mono ?_
  rintro e2 w2 ⟨rfl, rfl⟩
  go_wp2_with fail
  refine (a3 _ HE2.out).mono ?_
  rintro e3 w3 ⟨rfl, hb3⟩
  have H3 := Lib.hid (H1.out.below hb3)
  have H4 := Lib.hid (H2.out.trans (Wrote.of_below hb3 g none))
  clear hb3
  go_wp2
  go_ret2
  exact GtPost.mk rfl hq H3.out H4.out

set_option maxRecDepth 100000 in
set_option maxHeartbeats 2000000 in
theorem get_6 (Bf : Nat → Addr) (B g gl : Nat) (s : ByteArray) (p : Nat) (o : OpV) (w : World) (hE : EnvB B w Bf) (hg : B ≤ g) (hR : Rdr w g s p) (hp : p ≤ s.size) (hs : s.size ≤ 4398046511104) (ho : o.In) (hk : o.k = 6) :
    Calls Tryd.prog 22 #[.pointer (some ⟨g, 0, none⟩), .string s, .int .i64 p, o.val, .pointer (some ⟨gl, 0, none⟩)] w (GtPost g s w) := by
  obtain ⟨k, sec, u, i, n, m, t, A, ln, lc, ss⟩ := o
  obtain ⟨hn, hm⟩ := ho
  simp only at hk hn hm
  subst hk
  unfold OpV.val
  simp only
  have hB := hE.lt
  have hgl := hR.cells.2.2.2
  have hb := Below.new w (.cells #[.int .i64 6, .bool sec, .int .u64 u, .int .i64 i, .int .i64 n, .int .i64 m, .string t, .slice A ln lc] 30)
  have HB0 := Lib.hid (Wrote.of_below hb g none)
  have HX := Lib.hid (box_cells w (.int .i64 6) (.bool sec) (.int .u64 u) (.int .i64 i) (.int .i64 n) (.int .i64 m) (.string t) (.slice A ln lc))
  have hE1 := hE.below (hb.mono hB)
  have HE1 := Lib.hid hE1
  have a1 := rText_any Bf B g s p n _ hE1 hg (hR.below hb) hp (by omega) hn
  have a2 := fun w => getText_any s p n w hp (by omega) hn
  have he := True.intro
  obtain ⟨x, e, q, r1, r2, r3, he2, hq⟩ := gt_t Bf hp (fun e h => by have := tG_err h; omega) (fun x q h => (tG_ok h).2)
  rw [r1, r3] at a1
  simp only [r2] at a2
  have a3 := fun w hE => num_any Bf w hE e he2
  generalize ev Bf e = V at *
  clear hb hE hR hE1 he r1 r2 r3 he2
  go_enter Tryd.func22, Tryd.ntmps22
  go_wp2_with fail
  refine a1.mono ?_
  rintro e1 w1 ⟨rfl, h1, h2⟩
  obtain ⟨x0, x1, x2, x3, x4, x5, x6, x7⟩ := box8 ((h2.block _ (by simp) (by omega) (by simp)).trans HX.out)
  have HE2 := Lib.hid (HE1.out.wrote h2 hg (fun k hk => by cases hk)).env
  have H1 := Lib.hid h1; have H2 := Lib.hid (HB0.out.trans h2); clear h1 h2 a1
  go_wp2_with fail
  refine (a2 w1).mono ?_
  rintro e2 w2 ⟨rfl, rfl⟩
  go_wp2_with fail
  refine (a3 _ HE2.out).mono ?_
  rintro e3 w3 ⟨rfl, hb3⟩
  have H3 := Lib.hid (H1.out.below hb3)
  have H4 := Lib.hid (H2.out.trans (Wrote.of_below hb3 g none))
  clear hb3
  go_wp2
  go_ret2
  exact GtPost.mk rfl hq H3.out H4.out

set_option maxRecDepth 100000 in
set_option maxHeartbeats 4000000 in
theorem get_5 (Bf : Nat → Addr) (B g gl : Nat) (s : ByteArray) (p : Nat) (o : OpV) (w : World) (hE : EnvB B w Bf) (hg : B ≤ g) (hR : Rdr w g s p) (hp : p ≤ s.size) (hs : s.size ≤ 4398046511104) (hk : o.k = 5) :
    Calls Tryd.prog 22 #[.pointer (some ⟨g, 0, none⟩), .string s, .int .i64 p, o.val, .pointer (some ⟨gl, 0, none⟩)] w (GtPost g s w) := by
  obtain ⟨k, sec, u, i, n, m, t, A, ln, lc, ss⟩ := o
  simp only at hk
  subst hk
  unfold OpV.val
  simp only
  have hB := hE.lt
  have hgl := hR.cells.2.2.2
  have hb := Below.new w (.cells #[.int .i64 5, .bool sec, .int .u64 u, .int .i64 i, .int .i64 n, .int .i64 m, .string t, .slice A ln lc] 30)
  have HB0 := Lib.hid (Wrote.of_below hb g none)
  have HX := Lib.hid (box_cells w (.int .i64 5) (.bool sec) (.int .u64 u) (.int .i64 i) (.int .i64 n) (.int .i64 m) (.string t) (.slice A ln lc))
  have hE1 := hE.below (hb.mono hB)
  have HE1 := Lib.hid hE1
  have a1 := rFloat_any Bf B g s p _ hE1 hg (hR.below hb) hp (by omega)
  have a2 := fun w => getFloat_any s p w hp (by omega)
  cases hf : fG s p with
  | error e =>
    rw [hf] at a1
    simp only [hf] at a2
    simp only [fV, uP] at a1
    simp only [g3] at a2
    have he : e = 1 ∨ e = 7 := by
      unfold fG at hf
      cases hu : lowG s p 4 with
      | error e2 => rw [hu] at hf; obtain rfl := Except.error.inj hf; exact .inl (lowG_err hu)
      | ok y =>
        rw [hu] at hf
        simp only at hf
        split at hf
        · exact .inr (Except.error.inj hf).symm
        · cases hf
    have a3 := fun w hE => num_any Bf w hE e (by omega)
    have k0 : ((e : Int) == 0) = false := by rcases he with rfl | rfl <;> rfl
    have k1 : ¬ (e : Int) = 0 := by omega
    have k4 := fun w => run_bits 0 w
    generalize ev Bf e = V at *
    clear hb hE hR hE1 he hf
    go_enter Tryd.func22, Tryd.ntmps22
    go_wp2_with fail
    refine a1.mono ?_
    rintro e1 w1 ⟨rfl, h1, h2⟩
    have HE2 := Lib.hid (HE1.out.wrote h2 hg (fun k hk => by cases hk)).env
    have H1 := Lib.hid h1; have H2 := Lib.hid (HB0.out.trans h2); clear h1 h2 a1
    go_wp2_with fail
    refine (a2 w1).mono ?_
    rintro e2 w2 ⟨rfl, rfl⟩
    go_wp2_with fail
    refine (a3 _ HE2.out).mono ?_
    rintro e3 w3 ⟨rfl, hb3⟩
    have H3 := Lib.hid (H1.out.below hb3)
    have H4 := Lib.hid (H2.out.trans (Wrote.of_below hb3 g none))
    clear hb3
    go_wp2
    go_ret2
    exact GtPost.mk rfl hp H3.out H4.out
  | ok y =>
    obtain ⟨x, q⟩ := y
    rw [hf] at a1
    simp only [hf] at a2
    simp only [fV, uP] at a1
    simp only [g3] at a2
    have hq : q ≤ s.size ∧ (nan32 x = true → x = 2143289344) := by
      unfold fG at hf
      cases hu : lowG s p 4 with
      | error e2 => rw [hu] at hf; cases hf
      | ok y =>
        obtain ⟨x2, q2⟩ := y
        rw [hu] at hf
        simp only at hf
        split at hf
        · cases hf
        · rename_i hc
          obtain ⟨rfl, rfl⟩ := Prod.mk.inj (Except.ok.inj hf)
          exact ⟨lowG_le hp hu, fun h => Decidable.by_contra fun h2 => hc ⟨h, h2⟩⟩
    obtain ⟨hq, hn⟩ := hq
    have a3 := fun w hE => num_any Bf w hE 0 (by decide)
    rw [show ev Bf 0 = .nilIface from rfl] at a3
    by_cases hx : x = 2143289344
    · subst hx
      have k3 : (FloatKind.f32.format.order 2143289344 2143289344 != some Ordering.eq) = true := (ne_self 2143289344).trans (by decide)
      clear hb hE hR hE1 hf hn
      go_enter Tryd.func22, Tryd.ntmps22
      go_wp2_with fail
      refine a1.mono ?_
      rintro e1 w1 ⟨rfl, h1, h2⟩
      have H1 := Lib.hid h1; have H2 := Lib.hid (HB0.out.trans h2); clear h1 h2 a1
      go_wp2_with fail
      refine (a2 w1).mono ?_
      rintro e2 w2 ⟨rfl, rfl⟩
      go_wp2
      go_quiet (fail)
      go_wp2
      go_ret2
      exact GtPost.mk rfl hq (H1.out.drewN _) (H2.out.trans (Wrote.of_below (below_drewN (Below.refl _ _) _) g none))
    · have k0 : ((x : Int) == 2143289344) = false := by simp; omega
      have k1 : ¬ (x : Int) = 2143289344 := by omega
      have k4 := fun w => run_bits x w
      clear hb hE hR hE1 hf hn
      go_enter Tryd.func22, Tryd.ntmps22
      go_wp2_with fail
      refine a1.mono ?_
      rintro e1 w1 ⟨rfl, h1, h2⟩
      have HE2 := Lib.hid (HE1.out.wrote h2 hg (fun k hk => by cases hk)).env
      have H1 := Lib.hid h1; have H2 := Lib.hid (HB0.out.trans h2); clear h1 h2 a1
      go_wp2_with fail
      refine (a2 w1).mono ?_
      rintro e2 w2 ⟨rfl, rfl⟩
      go_wp2_with fail
      refine (a3 _ HE2.out).mono ?_
      rintro e3 w3 ⟨rfl, hb3⟩
      have H3 := Lib.hid (H1.out.below hb3)
      have H4 := Lib.hid (H2.out.trans (Wrote.of_below hb3 g none))
      clear hb3
      go_wp2
      go_ret2
      exact GtPost.mk rfl hq H3.out H4.out

set_option maxRecDepth 100000 in
set_option maxHeartbeats 2000000 in
theorem get_0 (Bf : Nat → Addr) (B g gl : Nat) (s : ByteArray) (p : Nat) (o : OpV) (w : World) (_ : EnvB B w Bf) (hR : Rdr w g s p) (hp : p ≤ s.size) (hk : o.k < 1 ∨ 8 < o.k) :
    Calls Tryd.prog 22 #[.pointer (some ⟨g, 0, none⟩), .string s, .int .i64 p, o.val, .pointer (some ⟨gl, 0, none⟩)] w (GtPost g s w) := by
  obtain ⟨k, sec, u, i, n, m, t, A, ln, lc, ss⟩ := o
  simp only at hk
  unfold OpV.val
  simp only
  have hb := Below.new w (.cells #[.int .i64 k, .bool sec, .int .u64 u, .int .i64 i, .int .i64 n, .int .i64 m, .string t, .slice A ln lc] 30)
  have H1 := Lib.hid (hR.below hb)
  have H2 := Lib.hid (Wrote.of_below hb g none)
  clear hb hR
  have k1 : (k == 1) = false := by simp; omega
  have k2 : (k == 2) = false := by simp; omega
  have k3 : (k == 3) = false := by simp; omega
  have k4 : (k == 4) = false := by simp; omega
  have k5 : (k == 5) = false := by simp; omega
  have k6 : (k == 6) = false := by simp; omega
  have k7 : (k == 7) = false := by simp; omega
  have k8 : (k == 8) = false := by simp; omega
  clear hk
  go_enter Tryd.func22, Tryd.ntmps22
  go_wp2
  go_ret2
  exact GtPost.mk rfl hp H1.out H2.out
end Go.Proofs.YtnodjcapclkmhaaDoor
