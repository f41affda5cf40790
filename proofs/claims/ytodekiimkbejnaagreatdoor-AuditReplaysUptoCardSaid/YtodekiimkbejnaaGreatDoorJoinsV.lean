/- AuditJoins: laws of the walk. -/
import Derived.Test.YtodekiimkbejnaaGreatDoorLivesW
import Derived.Test.YtodekiimkbejnaaGreatDoorCopW
import Derived.Test.YtodekiimkbejnaaGreatDoorAppRows
namespace Go.Proofs.YtodekiimkbejnaaGreatDoor
open Go.RowKit Go.WideMaps Go.Maps Go.Sort

theorem postsL_length (qs : Nat → PostV) : ∀ k, (postsL qs k).length = k * 4
  | 0 => rfl
  | k + 1 => by simp [postsL, postsL_length qs k]; omega
theorem postsL_one (qs : Nat → PostV) : ∀ k, ∀ u ∈ postsL qs k, u.oneCell' = true
  | 0, u, h => by simp [postsL] at h
  | k + 1, u, h => by
    simp [postsL] at h
    rcases h with h | rfl | rfl | rfl | rfl
    · exact postsL_one qs k u h
    · rfl
    · rfl
    · rfl
    · rfl
theorem postsL_at (qs : Nat → PostV) : ∀ k i, i < k → (postsL qs k)[i * 4]? = some (.string (qs i).id) ∧ (postsL qs k)[i * 4 + 1]? = some (.int .i64 (qs i).tick) ∧ (postsL qs k)[i * 4 + 2]? = some (.string (qs i).note) ∧ (postsL qs k)[i * 4 + 3]? = some (.slice (qs i).A (qs i).n (qs i).c)
  | 0, i, h => by omega
  | k + 1, i, h => by
    have hl := postsL_length qs k
    by_cases e : i = k
    · subst e
      simp only [postsL]
      refine ⟨?_, ?_, ?_, ?_⟩
      · rw [List.getElem?_append_right (by omega), show i * 4 - (postsL qs i).length = 0 by omega]; rfl
      · rw [List.getElem?_append_right (by omega), show i * 4 + 1 - (postsL qs i).length = 1 by omega]; rfl
      · rw [List.getElem?_append_right (by omega), show i * 4 + 2 - (postsL qs i).length = 2 by omega]; rfl
      · rw [List.getElem?_append_right (by omega), show i * 4 + 3 - (postsL qs i).length = 3 by omega]; rfl
    · obtain ⟨h1, h2, h3, h4⟩ := postsL_at qs k i (by omega)
      simp only [postsL]
      refine ⟨?_, ?_, ?_, ?_⟩
      · rw [List.getElem?_append_left (by omega)]; exact h1
      · rw [List.getElem?_append_left (by omega)]; exact h2
      · rw [List.getElem?_append_left (by omega)]; exact h3
      · rw [List.getElem?_append_left (by omega)]; exact h4
/-- A posting's legs, as Replay reads them. -/
def PostIn (w : World) (p : PostV) : Prop := p.sized ∧ LegsAt w p.A p.n p.lg ∧ (0 < p.n → ∀ a, p.A = some a → a.block < w.heap.size)
theorem posts_of {w : World} {N n : Nat} {v : Value} {qs : Nat → PostV} (h : w.ownsRow N 35 4 v n (postsL qs n)) (hl : ∀ i, i < n → PostIn w (qs i)) :
    ∃ A c, v = .slice A n c ∧ PostsAt w A n qs := by
  rcases Nat.eq_zero_or_pos n with h0 | h0
  · obtain ⟨A, c, e, _⟩ := ownsRow_shape h
    exact ⟨A, c, e, fun h => by omega⟩
  · obtain ⟨g, cap, rfl, hN, hg⟩ := h.form h0
    refine ⟨_, _, rfl, fun _ => ⟨g, 0, rfl, hg, fun i hi => ?_⟩⟩
    obtain ⟨e1, e2, e3, e4⟩ := postsL_at qs n i hi
    have c1 := h.cells (g := g) rfl _ _ e1
    have c2 := h.cells (g := g) rfl _ _ e2
    have c3 := h.cells (g := g) rfl _ _ e3
    have c4 := h.cells (g := g) rfl _ _ e4
    rw [add_at] at c1 c2 c3 c4
    rw [Nat.zero_add]
    exact ⟨⟨c1, c2, c3, c4⟩, hl i hi⟩
theorem PostsAt.ok {w : World} {A : Option Addr} {n : Nat} {ps : Nat → PostV} (h : PostsAt w A n ps) (i : Nat) (hi : i < n) : (ps i).sized ∧ ∀ j, j < (ps i).n → ((ps i).lg j).Ok := by
  obtain ⟨_, _, _, _, hc⟩ := h (by omega)
  obtain ⟨_, hs, hl, _⟩ := hc i hi
  refine ⟨hs, fun j hj => ?_⟩
  obtain ⟨_, _, _, _, hc⟩ := hl (by omega)
  exact (hc j hj).2.2
/-- The copies' legs. -/
theorem Cp.postIn {N n : Nat} {ps qs : Nat → PostV} {w wr : World} {vo : Value} {A : Option Addr} (h : Cp N ps w wr vo n qs) {w0 : World} (hP : PostsAt w0 A n ps) {w' : World} (hk : ∀ g, N < g → vo.ownBlock ≠ some g → g < wr.heap.size → w'.heap[g]? = wr.heap[g]?) (hs : wr.heap.size ≤ w'.heap.size) (i : Nat) (hi : i < n) : PostIn w' (qs i) := by
  obtain ⟨a1, a2, a3, a4, a5⟩ := h.alike i hi
  obtain ⟨⟨s1, s2, s3⟩, hok⟩ := hP.ok i hi
  obtain ⟨g, e1, e2, e3, e4⟩ := h.legs i hi
  obtain ⟨_, _, hlt⟩ := row_cap e4
  have hr := ownsRow_of_block (w' := w') e4 fun b e => by
    obtain rfl := Option.some.inj (show some g = some b from e)
    exact hk g e2 e3 hlt
  refine ⟨⟨by rw [a1]; exact s1, by rw [a3]; exact s2, by rw [a4]; exact s3⟩, fun hn => ⟨g, 0, e1, by omega, fun j hj => ?_⟩, fun hn a e => ?_⟩
  · obtain ⟨f1, f2⟩ := legsL_at (qs i).lg (qs i).n j hj
    have hl := legsL_length (qs i).lg (qs i).n
    have c1 := hr.cells (g := g) rfl (j * 2) _ (by rw [List.getElem?_append_left (by omega)]; exact f1)
    have c2 := hr.cells (g := g) rfl (j * 2 + 1) _ (by rw [List.getElem?_append_left (by omega)]; exact f2)
    rw [add_at] at c1 c2
    rw [Nat.zero_add]
    refine ⟨c1, c2, ?_⟩
    rw [a5]
    exact hok j (by rw [← a4]; exact hj)
  · rw [e1] at e
    obtain rfl := Option.some.inj e
    show g < w'.heap.size
    omega
theorem Cp.posts {N n : Nat} {ps qs : Nat → PostV} {w wr : World} {vo : Value} {A : Option Addr} (h : Cp N ps w wr vo n qs) {w0 : World} (hP : PostsAt w0 A n ps) : ∃ A' c', vo = .slice A' n c' ∧ PostsAt wr A' n qs :=
  posts_of h.own (h.postIn hP (fun _ _ _ _ => rfl) (Nat.le_refl _))

theorem info35' : ∃ i0, Tryz.prog.info? 35 = some i0 ∧ i0.zero = some (.agg #[.string ⟨#[]⟩, .int .i64 0, .string ⟨#[]⟩, .slice none 0 0]) ∧ i0.size = 4 ∧ i0.bytes = 64 := by
  obtain ⟨i0, h⟩ := info_parts info35
  exact ⟨i0, h⟩
/-- Both lists' copies, one behind the other. -/
def join (n : Nat) (qs rs : Nat → PostV) : Nat → PostV := fun i => if i < n then qs i else rs (i - n)
theorem postsL_join (n : Nat) (qs rs : Nat → PostV) : ∀ m, postsL (join n qs rs) (n + m) = postsL qs n ++ postsL rs m
  | 0 => by
    show postsL (join n qs rs) n = postsL qs n ++ []
    rw [List.append_nil]
    exact postsL_congr n fun i hi => if_pos hi
  | m + 1 => by
    show postsL (join n qs rs) (n + m) ++ [.string (join n qs rs (n + m)).id, .int .i64 (join n qs rs (n + m)).tick, .string (join n qs rs (n + m)).note, .slice (join n qs rs (n + m)).A (join n qs rs (n + m)).n (join n qs rs (n + m)).c] = _
    rw [postsL_join n qs rs m]
    have e : join n qs rs (n + m) = rs m := by
      show (if n + m < n then _ else rs (n + m - n)) = _
      rw [if_neg (by omega), Nat.add_sub_cancel_left]
    rw [e, List.append_assoc]
    rfl
/-- The joined copies, as Replay reads them. -/
theorem joined_posts {N1 N2 n m : Nat} {ps1 ps2 qs rs : Nat → PostV} {w1 w2 w3 w4 W1 W2 : World} {v1 v2 v' : Value} {A1 A2 : Option Addr} (h1 : Cp N1 ps1 w1 w2 v1 n qs) (h2 : Cp N2 ps2 w2 w3 v2 m rs) (hN2 : N2 = w2.heap.size) (hP1 : PostsAt W1 A1 n ps1) (hP2 : PostsAt W2 A2 m ps2)
    (ho : w4.ownsRow N1 35 4 v' (n + m) (postsL qs n ++ postsL rs m)) (hg : w3.grownBy w4 v1.ownBlock) : ∃ A c, v' = .slice A (n + m) c ∧ PostsAt w4 A (n + m) (join n qs rs) := by
  rw [← postsL_join] at ho
  refine posts_of ho fun i hi => ?_
  have hv1 := h1.own.lt
  have hs := hg.size
  have hb := h2.bel
  have hs2 := hb.size
  by_cases e : i < n
  · rw [show join n qs rs i = qs i from if_pos e]
    exact h1.postIn hP1 (fun g h3 h4 h5 => (hg.block g (by omega) (fun e => h4 e.symm)).trans (hb.block g h5)) (by omega) i e
  · rw [show join n qs rs i = rs (i - n) from if_neg e]
    exact h2.postIn hP2 (fun g h3 h4 h5 => hg.block g h5 (fun e => by have := hv1 g e.symm; omega)) hs (i - n) (by omega)
theorem join_left {n : Nat} {ps1 qs rs : Nat → PostV} (h : ∀ i, i < n → Alike (ps1 i) (qs i)) : ∀ i, i < n → Alike (ps1 i) (join n qs rs i) := fun i hi => by
  rw [show join n qs rs i = qs i from if_pos hi]; exact h i hi
theorem join_right {n m : Nat} {ps2 qs rs : Nat → PostV} (h : ∀ i, i < m → Alike (ps2 i) (rs i)) : ∀ i, i < m → Alike (ps2 i) (join n qs rs (n + i)) := fun i hi => by
  have e : join n qs rs (n + i) = rs i := by
    show (if n + i < n then _ else rs (n + i - n)) = _
    rw [if_neg (by omega), Nat.add_sub_cancel_left]
  rw [e]; exact h i hi

/-- Replay's two results. -/
def RepV (r : Nat × DataW Unit) (B : Nat) (w' : World) (x ex : Value) : Prop :=
  (r.1 = 0 ∧ ex = .nilIface ∧ w'.ownsRow B 37 2 x (sortedKeys r.2).length (legCells r.2 (sortedKeys r.2))) ∨
  (r.1 ≠ 0 ∧ x = .slice none 0 0 ∧ ∃ p, ex = .iface 135 (.pointer (some p)))
theorem RepPost.two {Bf : Nat → Addr} {r : Nat × DataW Unit} {w w' : World} {e : Ending} (h : RepPost Bf r w e w') : Below w.heap.size w w' ∧ ∃ x ex, e = .returned (.tuple #[x, ex]) ∧ RepV r w.heap.size w' x ex := by
  refine ⟨h.1, ?_⟩
  rcases h.2 with ⟨h1, v, h2, h3⟩ | ⟨h1, h2⟩ | ⟨h1, h2⟩
  · exact ⟨v, _, h2, .inl ⟨h1, rfl, h3⟩⟩
  · exact ⟨_, _, h2, .inr ⟨by rw [h1]; decide, rfl, _, rfl⟩⟩
  · exact ⟨_, _, h2, .inr ⟨by rw [h1]; decide, rfl, _, rfl⟩⟩
theorem RepV.below {r : Nat × DataW Unit} {B : Nat} {w w' : World} {x ex : Value} (h : RepV r B w x ex) (hb : Below w.heap.size w w') : RepV r B w' x ex := by
  rcases h with ⟨h1, h2, h3⟩ | h
  · exact .inl ⟨h1, h2, ownsRow_of_block h3 fun g e => hb.block g (h3.lt g e).2⟩
  · exact .inr h
theorem sortedKeys_le {ps : Nat → PostV} {n : Nat} (h : (postsR ps n).1 = 0) : (sortedKeys (postsR ps n).2).length ≤ 8 * n := by
  rw [sortedKeys_length]
  refine Nat.le_trans (strKeys_size _) ?_
  have leg : ∀ (lg : Nat → LegV) (k : Nat), amts lg k = true → ∀ D, Good D → ∀ E, legsR D lg k = some E → Maps.size E ≤ Maps.size D + k := by
    intro lg k
    induction k with
    | zero => intro _ D _ E e; obtain rfl := Option.some.inj e; exact Nat.le_refl _
    | succ k ih =>
      intro ha D hD E e
      have ha' : amts lg k = true := by unfold amts at ha; exact (Bool.and_eq_true _ _ ▸ ha).1
      rw [show legsR D lg (k + 1) = (legsR D lg k).bind fun E => legR E (lg k) from rfl] at e
      cases f : legsR D lg k with
      | none => rw [f] at e; cases e
      | some F =>
        rw [f] at e
        have hF := legsR_good ha' hD k (Nat.le_refl _) F f
        have i1 := ih ha' D hD F f
        obtain ⟨rfl, _, _⟩ := legR_some hF (amts_at ha (by omega)) e
        obtain ⟨es, e1, e2, _⟩ := hF.str
        rw [size_put ⟨es, e1, e2⟩]
        split <;> omega
  induction n with
  | zero => exact Nat.le_refl _
  | succ k ih =>
    obtain ⟨h1, h2, h3⟩ := postsR_step h
    have hn : (ps k).n ≤ 8 := by
      unfold pOk pOkB at h2
      simp only [Bool.and_eq_true] at h2
      have h2 := h2.1.2
      unfold nOk at h2
      simp only [Bool.and_eq_true, Bool.not_eq_true', decide_eq_false_iff_not] at h2
      omega
    have := leg _ _ (pOk_amts h2) _ (postsR_good k h1) _ h3
    have := ih h1
    omega

/-- Of each leg of Replay's answer. -/
theorem repLegs_at {D : DataW Unit} (hG : Good D) (i : Nat) (hi : i < (sortedKeys D).length) : (repLegs D i).x = numAt D (kl (repLegs D i).a) ∧ has D (kl (repLegs D i).a) = true := by
  refine ⟨rfl, ?_⟩
  have hm : (sortedKeys D).getD i [] ∈ sortedKeys D := by
    simp [List.getD, List.getElem?_eq_getElem hi]
  exact (mem_strKeys hG.str _).1 ((mem_sortedKeys _).1 hm)
theorem repLegs_lt {D : DataW Unit} (hG : Good D) {i j : Nat} (h : i < j) (hj : j < (sortedKeys D).length) : Op.bytesLess (repLegs D i).a.toList (repLegs D j).a.toList = true := by
  rw [toList_eq, toList_eq, bytesLess_eq]
  exact decide_eq_true (sorted_lt hG h hj)

/-- The legs of two answers, one behind the other. -/
def jlegs (Dx Dy : DataW Unit) : Nat → LegV := fun i => if i < (sortedKeys Dx).length then repLegs Dx i else repLegs Dy (i - (sortedKeys Dx).length)
theorem legs_of_rows {w : World} {B : Nat} {v : Value} {Dx Dy : DataW Unit} (h : w.ownsRow B 37 2 v ((sortedKeys Dx).length + (sortedKeys Dy).length) (legCells Dx (sortedKeys Dx) ++ legCells Dy (sortedKeys Dy))) (hGx : Good Dx) (hKx : KeysLe Dx) (hGy : Good Dy) (hKy : KeysLe Dy) :
    ∃ A c, v = .slice A ((sortedKeys Dx).length + (sortedKeys Dy).length) c ∧ LegsAt w A ((sortedKeys Dx).length + (sortedKeys Dy).length) (jlegs Dx Dy) ∧ ∀ a, A = some a → ∃ g, a = ⟨g, 0, none⟩ ∧ B ≤ g ∧ g < w.heap.size := by
  rcases h.2 with ⟨rfl, h0⟩ | ⟨g, cap, cur, rfl, hB, hg, hn, hm, hs, ht⟩
  · exact ⟨none, 0, by rw [h0], fun h => by omega, fun a e => by cases e⟩
  · have hlt : g < w.heap.size := by
      rcases Nat.lt_or_ge g w.heap.size with hlt | hge
      · exact hlt
      · rw [Array.getElem?_eq_none hge] at hg; cases hg
    have hl := legCells_length Dx (sortedKeys Dx)
    refine ⟨_, _, rfl, fun _ => ⟨g, 0, rfl, hlt, fun i hi => ?_⟩, fun a e => ⟨g, (Option.some.inj e).symm, hB, hlt⟩⟩
    rw [Nat.zero_add]
    by_cases e : i < (sortedKeys Dx).length
    · obtain ⟨e1, e2⟩ := legCells_at Dx (sortedKeys Dx) i e
      have c1 := h.cells (g := g) rfl (i * 2) _ (by rw [List.getElem?_append_left (by omega)]; exact e1)
      have c2 := h.cells (g := g) rfl (i * 2 + 1) _ (by rw [List.getElem?_append_left (by omega)]; exact e2)
      rw [add_at] at c1 c2
      rw [show jlegs Dx Dy i = repLegs Dx i from if_pos e]
      exact ⟨c1, c2, repLegs_ok hGx hKx i⟩
    · obtain ⟨e1, e2⟩ := legCells_at Dy (sortedKeys Dy) (i - (sortedKeys Dx).length) (by omega)
      have c1 := h.cells (g := g) rfl (i * 2) _ (by rw [List.getElem?_append_right (by omega), show i * 2 - (legCells Dx (sortedKeys Dx)).length = (i - (sortedKeys Dx).length) * 2 by omega]; exact e1)
      have c2 := h.cells (g := g) rfl (i * 2 + 1) _ (by rw [List.getElem?_append_right (by omega), show i * 2 + 1 - (legCells Dx (sortedKeys Dx)).length = (i - (sortedKeys Dx).length) * 2 + 1 by omega]; exact e2)
      rw [add_at] at c1 c2
      rw [show jlegs Dx Dy i = repLegs Dy (i - (sortedKeys Dx).length) from if_neg e]
      exact ⟨c1, c2, repLegs_ok hGy hKy _⟩
theorem jlegs_has {Dx Dy Dz : DataW Unit} (h : Both Dx Dz Dy) (hGx : Good Dx) (hGy : Good Dy) (i : Nat) (hi : i < (sortedKeys Dx).length + (sortedKeys Dy).length) : has Dz (kl (jlegs Dx Dy i).a) = true := by
  rw [h.key]
  by_cases e : i < (sortedKeys Dx).length
  · rw [show jlegs Dx Dy i = repLegs Dx i from if_pos e, (repLegs_at hGx i e).2]; rfl
  · rw [show jlegs Dx Dy i = repLegs Dy (i - (sortedKeys Dx).length) from if_neg e, (repLegs_at hGy _ (by omega)).2]; simp
theorem legCells_one (D : DataW Unit) : ∀ (K : List (List UInt8)), ∀ u ∈ legCells D K, u.oneCell' = true
  | [], u, h => by simp [legCells] at h
  | s :: r, u, h => by
    simp [legCells] at h
    rcases h with rfl | rfl | h
    · rfl
    · rfl
    · exact legCells_one D r u h
theorem info37' : ∃ i0, Tryz.prog.info? 37 = some i0 ∧ i0.zero = some (.agg #[.string ⟨#[]⟩, .int .i64 0]) ∧ i0.size = 2 ∧ i0.bytes = 24 := by
  obtain ⟨i0, h⟩ := info_parts info37
  exact ⟨i0, h⟩
end Go.Proofs.YtodekiimkbejnaaGreatDoor
