/- get at lists, and get whole: the list that is handed out goes behind the others: walked. -/
import Derived.Test.YtnodjcapclkmhaaDoorGetW
import Derived.Test.YtnodjcapclkmhaaDoorLists
namespace Go.Proofs.YtnodjcapclkmhaaDoor
open Go.RowKit

def LL : Except Nat (List ByteArray × Nat) → List ByteArray
  | .ok y => y.1
  | .error _ => []
def EE : Except Nat (List ByteArray × Nat) → Nat
  | .ok _ => 0
  | .error e => e
theorem XRes.all {Bf : Nat → Addr} {g p : Nat} {s : ByteArray} {R : Except Nat (List ByteArray × Nat)} {w w' : World} {e : Ending} (h : XRes Bf g s p R w e w') (hp : p ≤ s.size) :
    ∃ A c, e = .returned (.tuple #[.slice A (LL R).length c, ev Bf (EE R)]) ∧ Rdr w' g s (uP p R) ∧ Wrote w w' g none none ∧ ownsT w' w.heap.size (.slice A (LL R).length c) (LL R) ∧ uP p R ≤ s.size ∧ (LL R).length ≤ s.size ∧ EE R ≤ 37 := by
  rcases h with ⟨k, rfl, hk, he, hr, hw⟩ | ⟨L, q, v, rfl, hq, hl, he, hr, hw, ho⟩
  · exact ⟨none, 0, he, hr, hw, ownsT.nil _ _, hp, Nat.zero_le _, by show k ≤ 37; omega⟩
  · obtain ⟨A, c, rfl⟩ := ho.form
    exact ⟨A, c, he, hr, hw, ho, hq, hl, Nat.zero_le _⟩
theorem GRes.all {p : Nat} {s : ByteArray} {R : Except Nat (List ByteArray × Nat)} {w w' : World} {e : Ending} (h : GRes s p R w e w') :
    ∃ A c, e = .returned (.tuple #[.slice A (LL R).length c, .int .i64 (uP p R), .int .i64 (EE R)]) ∧ Below w.heap.size w w' ∧ ownsT w' w.heap.size (.slice A (LL R).length c) (LL R) := by
  rcases h with ⟨k, rfl, hk, he, hw⟩ | ⟨L, q, v, rfl, hq, hl, he, hw, ho⟩
  · exact ⟨none, 0, he, hw, ownsT.nil _ _⟩
  · obtain ⟨A, c, rfl⟩ := ho.form
    exact ⟨A, c, he, hw, ho⟩
theorem owns_lf {w : World} {b k c : Nat} {A : Option Addr} {L : List ByteArray} (h : ownsT w b (.slice A k c) L) : Sl w A L.length (fun i => .string (lf L i)) := by
  obtain ⟨_, h2⟩ := h.sl
  intro h0
  obtain ⟨k, rfl, hb, hk, hc⟩ := h2 h0
  exact ⟨k, 0, rfl, hk, fun i hi => by rw [Nat.zero_add, hc i hi]⟩

/-- Nothing else has changed than the Reader g, the cell gl and the block r. -/
structure Chg (w w' : World) (g gl : Nat) (r : Option Nat) : Prop where
  os : w'.os = w.os
  tape : w'.tape = w.tape
  output : w'.output = w.output
  size : w.heap.size ≤ w'.heap.size
  block : ∀ k, k < w.heap.size → k ≠ g → k ≠ gl → some k ≠ r → w'.heap[k]? = w.heap[k]?
section
variable {w w1 w' : World} {g gl : Nat} {r : Option Nat}
theorem Chg.trans (h : Chg w w1 g gl r) (k : Chg w1 w' g gl r) : Chg w w' g gl r := ⟨k.os.trans h.os, k.tape.trans h.tape, k.output.trans h.output, Nat.le_trans h.size k.size, fun j hj h1 h2 h3 => (k.block j (Nat.lt_of_lt_of_le hj h.size) h1 h2 h3).trans (h.block j hj h1 h2 h3)⟩
theorem Chg.wrote (h : Wrote w w' g none none) : Chg w w' g gl r := ⟨h.os, h.tape, h.output, h.size, fun k hk h1 _ _ => h.block k hk h1 (by simp)⟩
theorem Chg.new (h : Below w.heap.size w w') : Chg w w' g gl r := ⟨h.os, h.tape, h.output, h.size, fun k hk _ _ _ => h.block k hk⟩
theorem Chg.row (h : w.grownBy w' r) : Chg w w' g gl r := ⟨h.os, h.tape, h.output, h.size, fun k hk _ _ h3 => h.block k hk h3⟩
theorem Chg.cell (v : Value) : Chg w (w.setCell ⟨gl, 0, none⟩ v) g gl r := ⟨rfl, rfl, rfl, by simp [World.setCell], fun k _ _ h2 _ => Below.heap_setCell w ⟨gl, 0, none⟩ v k h2⟩
theorem Chg.below {B : Nat} (h : Chg w w' g gl r) (hB : B ≤ w.heap.size) (h1 : B ≤ g) (h2 : B ≤ gl) (h3 : ∀ k, r = some k → B ≤ k) : Below B w w' :=
  ⟨h.os, h.tape, h.output, h.size, fun k hk => h.block k (by omega) (by omega) (by omega) (fun e => by have := h3 k e.symm; omega)⟩
end

/-- What get leaves: the answer is right, the Reader stands at the place that is told; perhaps one list more. -/
def GlPost (base g gl : Nat) (s : ByteArray) (k M : Nat) (v : Value) (w : World) (e : Ending) (w' : World) : Prop :=
  ∃ (q k' : Nat) (v' : Value) (V' : Nat → Value) (L' : Nat → List ByteArray), e = .returned (.tuple #[.int .i64 q, .bool true]) ∧ q ≤ s.size ∧ Rdr w' g s q ∧ w'.heap[gl]? = some (.cells #[v'] 41 (0, 0)) ∧ Lists w' base v' k' V' L' ∧ k' ≤ k + 1 ∧ (∀ i, i < k' → (L' i).length ≤ M) ∧ Chg w w' g gl v.ownBlock
theorem GlPost.mk {base g gl k M q k' : Nat} {s : ByteArray} {v v' : Value} {w w' : World} {e : Ending} {V' : Nat → Value} {L' : Nat → List ByteArray} (h1 : e = .returned (.tuple #[.int .i64 q, .bool true])) (h2 : q ≤ s.size) (h3 : Rdr w' g s q) (h4 : w'.heap[gl]? = some (.cells #[v'] 41 (0, 0))) (h5 : Lists w' base v' k' V' L') (h6 : k' ≤ k + 1) (h7 : ∀ i, i < k' → (L' i).length ≤ M) (h8 : Chg w w' g gl v.ownBlock) : GlPost base g gl s k M v w e w' :=
  ⟨q, k', v', V', L', h1, h2, h3, h4, h5, h6, h7, h8⟩
theorem GtPost.gl {base g gl k M : Nat} {s : ByteArray} {v : Value} {w w' : World} {e : Ending} {V : Nat → Value} {L : Nat → List ByteArray} {p : Nat} (h : GtPost g s w e w') (hR : Rdr w g s p) (hC : w.heap[gl]? = some (.cells #[v] 41 (0, 0))) (hL : Lists w base v k V L) (hM : ∀ i, i < k → (L i).length ≤ M) (hne : gl ≠ g) : GlPost base g gl s k M v w e w' := by
  obtain ⟨q, h1, h2, h3, h4⟩ := h
  have hl : gl < w.heap.size := by
    rcases Nat.lt_or_ge gl w.heap.size with h | h
    · exact h
    · rw [Array.getElem?_eq_none h] at hC; cases hC
  exact GlPost.mk h1 h2 h3 ((h4.block gl hl hne (by simp)).trans hC) (hL.wrote h4 hR (by decide) (by decide)) (by omega) hM (Chg.wrote h4)

set_option maxRecDepth 100000 in
set_option maxHeartbeats 4000000 in
theorem get_7 (Bf : Nat → Addr) (B g gl base k M : Nat) (s : ByteArray) (p : Nat) (o : OpV) (v : Value) (V : Nat → Value) (L : Nat → List ByteArray) (w : World) (hE : EnvB B w Bf) (hg : B ≤ g) (hR : Rdr w g s p) (hp : p ≤ s.size) (hs : s.size ≤ 4398046511104) (ho : o.In) (hk : o.k = 7)
    (hC : w.heap[gl]? = some (.cells #[v] 41 (0, 0))) (hL : Lists w base v k V L) (hM : ∀ i, i < k → (L i).length ≤ M) (hsM : s.size ≤ M) (hgl : gl < base) (hgb : g < base) (hne : gl ≠ g) (hbase : base ≤ w.heap.size) (hk2 : k ≤ 4000000) (hBl : B ≤ gl) :
    Calls Tryd.prog 22 #[.pointer (some ⟨g, 0, none⟩), .string s, .int .i64 p, o.val, .pointer (some ⟨gl, 0, none⟩)] w (GlPost base g gl s k M v w) := by
  obtain ⟨ok, sec, u, i, n, m, t, A, ln, lc, ss⟩ := o
  obtain ⟨hn, hm⟩ := ho
  simp only at hk hn hm
  subst hk
  unfold OpV.val
  simp only
  have hB := hE.lt
  have hb := Below.new w (.cells #[.int .i64 7, .bool sec, .int .u64 u, .int .i64 i, .int .i64 n, .int .i64 m, .string t, .slice A ln lc] 30)
  have HX := Lib.hid (box_cells w (.int .i64 7) (.bool sec) (.int .u64 u) (.int .i64 i) (.int .i64 n) (.int .i64 m) (.string t) (.slice A ln lc))
  have hs0 : (w.alloc (.cells #[.int .i64 7, .bool sec, .int .u64 u, .int .i64 i, .int .i64 n, .int .i64 m, .string t, .slice A ln lc] 30)).heap.size = w.heap.size + 1 := by simp
  replace hs0 := Nat.le_of_eq hs0.symm
  have hE1 := hE.below (hb.mono hB)
  have HE1 := Lib.hid hE1
  have a1 := (rTexts_any Bf B g s p n m _ hE1 hg (hR.below hb) hp hs hn hm).mono fun _ _ h => h.all hp
  have a2 := fun w => (getTexts_any s p n m w hp hs hn hm).mono fun _ _ h => h.all
  have HR0 := Lib.hid (hR.below hb)
  have HL0 := Lib.hid (hL.below hb)
  have hglw : gl < w.heap.size := by omega
  have HC0 := Lib.hid ((hb.block gl hglw).trans hC)
  have HG0 := Lib.hid (Chg.new (g := g) (gl := gl) (r := v.ownBlock) hb)
  have HM := Lib.hid hM
  clear hb hE hR hE1 hL hC hM
  obtain ⟨R, hRR⟩ : ∃ R, xsG s p n m = R := ⟨_, rfl⟩
  rw [hRR] at a1
  simp only [hRR] at a2
  clear hRR
  have hform := HL0.out.form
  obtain ⟨A0, c0, rfl⟩ := hform
  go_enter Tryd.func22, Tryd.ntmps22
  go_wp2_with fail
  generalize w.alloc (.cells #[.int .i64 7, .bool sec, .int .u64 u, .int .i64 i, .int .i64 n, .int .i64 m, .string t, .slice A ln lc] 30) = w0 at *
  refine a1.mono ?_
  clear a1
  rintro e1 w1 ⟨A1, c1, rfl, h1, h2, h3, hq, hl, he⟩
  obtain ⟨x0, x1, x2, x3, x4, x5, x6, x7⟩ := box8 ((h2.block _ (by omega) (by omega) (by simp)).trans HX.out)
  have a3 := fun w hE => num_any Bf w hE (EE R) he
  have HE2 := Lib.hid (HE1.out.wrote h2 hg (fun k hk => by cases hk))
  have H1 := Lib.hid h1
  have hz1 := h2.size
  have HG1 := Lib.hid (HG0.out.trans (Chg.wrote h2))
  have HL1 := Lib.hid (HL0.out.wrote h2 HR0.out (by decide) (by decide))
  have HC1 := Lib.hid ((h2.block gl (by omega) hne (by simp)).trans HC0.out)
  have HX1 := Lib.hid h3
  have hlow : ∀ q, (Value.slice A1 (LL R).length c1).ownBlock = some q → w0.heap.size ≤ q := fun q e => (World.ownsRow.lt h3 q e).1
  have hnew : ∀ i, i < k → ∀ q, (Value.slice A1 (LL R).length c1).ownBlock = some q → (V i).ownBlock ≠ some q := fun i hi q e e2 => by
    have := (HL0.out.lt.2 i q hi e2).2; have := hlow q e; omega
  have hvx : ∀ q, (Value.slice A1 (LL R).length c1).ownBlock = some q → (Value.slice A0 k c0).ownBlock ≠ some q := fun q e e2 => by
    have := (HL0.out.lt.1 q e2).2; have := hlow q e; omega
  have HNEW := Lib.hid hnew; have HVX := Lib.hid hvx
  clear h1 h2 h3 hlow hnew hvx
  generalize EE R = er at *
  generalize ev Bf er = VV at *
  go_wp2_with fail
  refine (a2 w1).mono ?_
  clear a2
  rintro e2 w2 ⟨A2, c2, rfl, hb2, h3⟩
  have hz2 := hb2.size
  have a5 := same_any A1 A2 (LL R).length c1 c2 (lf (LL R)) w2 (by omega) (owns_lf (HX1.out.kept (b := none) ⟨hb2.os, hb2.tape, hb2.output, hb2.size, fun k hk _ => hb2.block k hk⟩ (by cases (Value.slice A1 (LL R).length c1).ownBlock <;> simp))) (owns_lf h3)
  have HX2 := Lib.hid (show ownsT w2 w0.heap.size (.slice A1 (LL R).length c1) (LL R) from HX1.out.kept (b := none) ⟨hb2.os, hb2.tape, hb2.output, hb2.size, fun k hk _ => hb2.block k hk⟩ (by cases (Value.slice A1 (LL R).length c1).ownBlock <;> simp))
  have HE3 := Lib.hid (HE2.out.below (hb2.mono (by omega)))
  have H2 := Lib.hid (H1.out.below hb2)
  have HG2 := Lib.hid (HG1.out.trans (Chg.new hb2))
  have HL2 := Lib.hid (HL1.out.below hb2)
  have HC2 := Lib.hid ((hb2.block gl (by omega)).trans HC1.out)
  clear hb2 h3
  generalize uP p R = q at *
  generalize LL R = l at *
  go_wp2_with fail
  refine a5.mono ?_
  clear a5
  rintro e3 w' ⟨rfl, j, rfl⟩
  have hd := below_drewN (Below.refl w2.heap.size w2) j
  have HE4 := Lib.hid (HE3.out.below (hd.mono (by omega)))
  have H3 := Lib.hid (H2.out.below hd)
  have HG3 := Lib.hid (HG2.out.trans (Chg.new hd))
  have HL3 := Lib.hid (HL2.out.below hd)
  have HC3 := Lib.hid (show (w2.drewN j).heap[gl]? = _ from HC2.out)
  have HX3 := Lib.hid (show ownsT (w2.drewN j) base (.slice A1 l.length c1) l from ownsT.mono (show ownsT (w2.drewN j) w0.heap.size (.slice A1 l.length c1) l from HX2.out) (by omega))
  have hz3 : w2.heap.size ≤ (w2.drewN j).heap.size := Nat.le_refl _
  clear hd
  generalize w2.drewN j = w3 at *
  have hcl : w3.cell? ⟨gl, 0, none⟩ = some (.slice A0 k c0) := by unfold World.cell?; rw [HC3.out]; rfl
  go_wp2_with (first | (at_builtin; refine append_list rfl _ _ rfl base k (.slice A0 k c0) (.slice A1 l.length c1) V L l rfl HL3.out HX3.out HNEW.out HVX.out rfl (by omega) (by omega) ?_))
  intro gx cap w4 hl4 hg4 hat4
  have hrow := HL3.out.lt.1
  have hC4 : w4.heap[gl]? = some (.cells #[.slice A0 k c0] 41 (0, 0)) := (hg4.block gl (by omega) (fun e => by have := (hrow gl e.symm).1; omega)).trans HC3.out
  have hcl4 : w4.cell? ⟨gl, 0, none⟩ = some (.slice A0 k c0) := by unfold World.cell?; rw [hC4]; rfl
  have hfr4 : w4.frozen? ⟨gl, 0, none⟩ = false := by unfold World.frozen?; rw [hC4]; rfl
  have hR4 : Rdr w4 g s q := rdr_grown H3.out hg4 (fun e => by have := (hrow g e).1; omega)
  have hsz4 := hg4.size
  have HE5 := Lib.hid (HE4.out.below (below_grown (Below.refl B w3) (by omega) hg4 (fun q e => by have := (hrow q e).1; omega) |>.setCell (p := ⟨gl, 0, none⟩) hBl (.slice (some ⟨gx, 0, none⟩) (k + 1) cap)))
  have HR5 := Lib.hid (show Rdr (w4.setCell ⟨gl, 0, none⟩ (.slice (some ⟨gx, 0, none⟩) (k + 1) cap)) g s q from (Below.heap_setCell w4 ⟨gl, 0, none⟩ _ g (Ne.symm hne)).trans hR4)
  have HG5 := Lib.hid ((HG3.out.trans (Chg.row hg4)).trans (Chg.cell (.slice (some ⟨gx, 0, none⟩) (k + 1) cap)))
  have hw5 : w4.grownBy (w4.setCell ⟨gl, 0, none⟩ (.slice (some ⟨gx, 0, none⟩) (k + 1) cap)) (some gl) := setCell_grown w4 gl 0 _
  have HL5 := Lib.hid (hl4.grown hw5 (.inr (hl4.other hC4 (by decide) (by decide)).1) (fun i hi => .inr ((hl4.other hC4 (by decide) (by decide)).2 i hi)))
  have HC5 := Lib.hid (show (w4.setCell ⟨gl, 0, none⟩ (.slice (some ⟨gx, 0, none⟩) (k + 1) cap)).heap[gl]? = some (.cells #[.slice (some ⟨gx, 0, none⟩) (k + 1) cap] 41 (0, 0)) by
    show (w4.heap.modify gl _)[gl]? = _
    rw [Array.getElem?_modify, if_pos rfl, hC4]
    rfl)
  clear hl4 hg4 hat4 hC4 hR4 hw5 hrow hcl
  go_wp2_with fail
  refine (a3 _ HE5.out.env).mono ?_
  rintro e6 w6 ⟨rfl, hb6⟩
  have H6 := Lib.hid (HR5.out.below hb6)
  have HG6 := Lib.hid (HG5.out.trans (Chg.new hb6))
  have HL6 := Lib.hid (HL5.out.below hb6)
  have HC6 := Lib.hid ((hb6.block gl (by have := HR5.out; simp [World.setCell]; omega)).trans HC5.out)
  clear hb6
  go_wp2
  go_ret2
  exact GlPost.mk rfl hq H6.out HC6.out HL6.out (Nat.le_refl _) (Lists.upd_sizes HM.out (by omega)) HG6.out

theorem get_any (Bf : Nat → Addr) (B g gl base k M : Nat) (s : ByteArray) (p : Nat) (o : OpV) (v : Value) (V : Nat → Value) (L : Nat → List ByteArray) (w : World) (hE : EnvB B w Bf) (hg : B ≤ g) (hR : Rdr w g s p) (hp : p ≤ s.size) (hs : s.size ≤ 4398046511104) (ho : o.In)
    (hC : w.heap[gl]? = some (.cells #[v] 41 (0, 0))) (hL : Lists w base v k V L) (hM : ∀ i, i < k → (L i).length ≤ M) (hsM : s.size ≤ M) (hgl : gl < base) (hgb : g < base) (hne : gl ≠ g) (hbase : base ≤ w.heap.size) (hk2 : k ≤ 4000000) (hBl : B ≤ gl) :
    Calls Tryd.prog 22 #[.pointer (some ⟨g, 0, none⟩), .string s, .int .i64 p, o.val, .pointer (some ⟨gl, 0, none⟩)] w (GlPost base g gl s k M v w) := by
  rcases (show o.k = 1 ∨ o.k = 2 ∨ o.k = 3 ∨ o.k = 4 ∨ o.k = 5 ∨ o.k = 6 ∨ o.k = 7 ∨ o.k = 8 ∨ (o.k < 1 ∨ 8 < o.k) by omega) with hk | hk | hk | hk | hk | hk | hk | hk | hk
  · exact (get_1 Bf B g gl s p o w hE hg hR hp hs ho hk).mono fun _ _ h => h.gl hR hC hL hM hne
  · exact (get_2 Bf B g gl s p o w hE hg hR hp hs ho hk).mono fun _ _ h => h.gl hR hC hL hM hne
  · exact (get_3 Bf B g gl s p o w hE hg hR hp hs ho hk).mono fun _ _ h => h.gl hR hC hL hM hne
  · exact (get_4 Bf B g gl s p o w hE hg hR hp hs ho hk).mono fun _ _ h => h.gl hR hC hL hM hne
  · exact (get_5 Bf B g gl s p o w hE hg hR hp hs hk).mono fun _ _ h => h.gl hR hC hL hM hne
  · exact (get_6 Bf B g gl s p o w hE hg hR hp hs ho hk).mono fun _ _ h => h.gl hR hC hL hM hne
  · exact get_7 Bf B g gl base k M s p o v V L w hE hg hR hp hs ho hk hC hL hM hsM hgl hgb hne hbase hk2 hBl
  · exact (get_8 Bf B g gl s p o w hE hg hR hp hs ho hk).mono fun _ _ h => h.gl hR hC hL hM hne
  · exact (get_0 Bf B g gl s p o w hE hR hp hk).mono fun _ _ h => h.gl hR hC hL hM hne
end Go.Proofs.YtnodjcapclkmhaaDoor
