/- AuditJoins: the plain law: the sums of two lists one behind the other are those of both, added up. -/
import Derived.Test.YtodekiimkbejnaaGreatDoorRepl
namespace Go.Proofs.YtodekiimkbejnaaGreatDoor
open Go.RowKit Go.WideMaps Go.Maps Go.Sort

/-- A map whose keys are strings, each once. -/
def StrMap (D : DataW Unit) : Prop := ∃ es, D = .map es ∧ es.Pairwise (fun p q => p.1 ≠ q.1) ∧ ∀ p ∈ es, ∃ x, p.1 = .string x
theorem StrMap.empty : StrMap (.map []) := ⟨[], rfl, .nil, fun p h => by cases h⟩
theorem StrMap.isMap {D : DataW Unit} (h : StrMap D) : IsMap D := let ⟨es, e, _⟩ := h; ⟨es, e⟩
theorem mem_insert {x p : Lit × DataW Unit} : ∀ l : List (Lit × DataW Unit), p ∈ DataW.insert x l → p = x ∨ p ∈ l
  | [], h => by simp [DataW.insert] at h; exact .inl h
  | y :: r, h => by
    unfold DataW.insert at h
    split at h
    · simp at h ⊢; exact h
    · rcases List.mem_cons.1 h with h | h
      · exact .inr (by simp [h])
      · rcases mem_insert r h with h | h
        · exact .inl h
        · exact .inr (by simp [h])
theorem StrMap.put {D : DataW Unit} (h : StrMap D) (a : List UInt8) (d : DataW Unit) : StrMap (D.put (.string a) d) := by
  obtain ⟨es, rfl, h1, h2⟩ := h
  obtain ⟨es', e, h3⟩ := Tidy.put (D := .map es) ⟨es, rfl, h1⟩ (k := .string a) trivial d
  refine ⟨es', e, h3, fun p hp => ?_⟩
  have e' : DataW.insert (Lit.string a, d) (es.filter fun p => !p.1.sameKey (.string a)) = es' := by injection e
  rw [← e'] at hp
  rcases mem_insert _ hp with rfl | hp
  · exact ⟨a, rfl⟩
  · exact h2 p (List.mem_filter.1 hp).1
theorem mem_strKeys {D : DataW Unit} (h : StrMap D) (x : List UInt8) : x ∈ strKeys D ↔ has D (.string x) = true := by
  obtain ⟨es, rfl, _, h2⟩ := h
  rw [has_eq, List.any_eq_true]
  show x ∈ es.map (fun p => strOf p.1) ↔ _
  rw [List.mem_map]
  constructor
  · rintro ⟨p, hp, rfl⟩
    obtain ⟨a, ha⟩ := h2 p hp
    exact ⟨p, hp, by rw [ha]; simp [Lit.sameKey, strOf]⟩
  · rintro ⟨p, hp, hs⟩
    obtain ⟨a, ha⟩ := h2 p hp
    rw [ha] at hs
    exact ⟨p, hp, by rw [ha]; simpa [Lit.sameKey, strOf] using hs⟩
theorem nodup_strKeys {D : DataW Unit} (h : StrMap D) : (strKeys D).Nodup := by
  obtain ⟨es, rfl, h1, h2⟩ := h
  show (es.map fun p => strOf p.1).Nodup
  refine List.pairwise_map.2 (h1.imp_of_mem fun {p q} hp' hq' hne e => hne ?_)
  obtain ⟨a, ha⟩ := h2 p hp'
  obtain ⟨b, hb⟩ := h2 q hq'
  rw [ha, hb] at e ⊢
  exact congrArg _ e

theorem numAt_put_same {D : DataW Unit} (h : IsMap D) (a : List UInt8) (s : Int) : numAt (D.put (.string a) (.lit (.int .i64 s))) (.string a) = s := by
  unfold numAt; rw [atKey_put_same h (k := .string a) trivial]
theorem numAt_put_other {D : DataW Unit} {a b : Lit} (hne : b ≠ a) (d : DataW Unit) : numAt (D.put a d) b = numAt D b := by
  unfold numAt; rw [atKey_put_other hne]
theorem numAt_not {D : DataW Unit} {k : Lit} (h : has D k = false) : numAt D k = 0 := by
  unfold numAt; rw [atKey_of_not_has h]

/-- Sums within the bound. -/
structure Good (D : DataW Unit) : Prop where
  str : StrMap D
  lim : ∀ k, -4611686018427387904 ≤ numAt D k ∧ numAt D k ≤ 4611686018427387904
theorem Good.empty : Good (.map []) := ⟨.empty, fun k => by rw [numAt_not rfl]; omega⟩
theorem legR_some {D E : DataW Unit} {l : LegV} (hD : Good D) (hx : amtOk l.x = true) (h : legR D l = some E) :
    E = D.put (kl l.a) (.lit (.int .i64 (numAt D (kl l.a) + l.x))) ∧ -4611686018427387904 ≤ numAt D (kl l.a) + l.x ∧ numAt D (kl l.a) + l.x ≤ 4611686018427387904 := by
  unfold legR at h
  unfold amtOk at hx
  simp only [Bool.and_eq_true, Bool.not_eq_true', decide_eq_false_iff_not] at hx
  have hl := hD.lim (kl l.a)
  simp only at h
  split at h
  · cases h
  · rename_i hn
    simp only [Bool.or_eq_true, decide_eq_true_eq, not_or] at hn
    have e : wrap64 (numAt D (kl l.a) + l.x) = numAt D (kl l.a) + l.x := by
      unfold wrap64 at hn ⊢
      omega
    rw [e] at h hn
    exact ⟨(Option.some.inj h).symm, by omega, by omega⟩
theorem Good.leg {D E : DataW Unit} {l : LegV} (hD : Good D) (hx : amtOk l.x = true) (h : legR D l = some E) : Good E := by
  obtain ⟨rfl, h1, h2⟩ := legR_some hD hx h
  refine ⟨hD.str.put _ _, fun k => ?_⟩
  by_cases e : k = kl l.a
  · subst e; unfold kl at *; rw [numAt_put_same hD.str.isMap]; exact ⟨h1, h2⟩
  · rw [numAt_put_other e]; exact hD.lim k
theorem amts_at {lg : Nat → LegV} {n i : Nat} (h : amts lg n = true) (hi : i < n) : amtOk (lg i).x = true := by
  cases e : amtOk (lg i).x with
  | true => rfl
  | false => rw [amts_false hi e] at h; cases h
theorem legsR_good {lg : Nat → LegV} {n : Nat} (ha : amts lg n = true) {D : DataW Unit} (hD : Good D) : ∀ k, k ≤ n → ∀ E, legsR D lg k = some E → Good E
  | 0, _, E, h => by obtain rfl := Option.some.inj h; exact hD
  | k + 1, hk, E, h => by
    cases e : legsR D lg k with
    | none => rw [show legsR D lg (k + 1) = (legsR D lg k).bind fun E => legR E (lg k) from rfl, e] at h; cases h
    | some F =>
      rw [show legsR D lg (k + 1) = (legsR D lg k).bind fun E => legR E (lg k) from rfl, e] at h
      exact (legsR_good ha hD k (by omega) F e).leg (amts_at ha (by omega)) h
theorem pOk_amts {p : PostV} (h : pOk p = true) : amts p.lg p.n = true := by
  unfold pOk pOkB legsOk at h
  simp only [Bool.and_eq_true] at h
  exact h.2.1.1.2
theorem postsR_step {ps : Nat → PostV} {k : Nat} (h : (postsR ps (k + 1)).1 = 0) : (postsR ps k).1 = 0 ∧ pOk (ps k) = true ∧ legsR (postsR ps k).2 (ps k).lg (ps k).n = some (postsR ps (k + 1)).2 := by
  have e : postsR ps (k + 1) = if (postsR ps k).1 = 0 then (if pOk (ps k) then (match legsR (postsR ps k).2 (ps k).lg (ps k).n with | some E => (0, E) | none => (2, .map [])) else (1, .map [])) else postsR ps k := rfl
  by_cases h0 : (postsR ps k).1 = 0
  · rw [if_pos h0] at e
    cases h1 : pOk (ps k) with
    | false => rw [h1] at e; rw [e] at h; cases h
    | true =>
      rw [h1, if_pos rfl] at e
      cases h2 : legsR (postsR ps k).2 (ps k).lg (ps k).n with
      | none => rw [h2] at e; rw [e] at h; cases h
      | some E => rw [h2] at e; exact ⟨h0, rfl, by rw [e]⟩
  · rw [if_neg h0] at e; rw [e] at h; exact absurd h h0
theorem postsR_good {ps : Nat → PostV} : ∀ k, (postsR ps k).1 = 0 → Good (postsR ps k).2
  | 0, _ => Good.empty
  | k + 1, h => by
    obtain ⟨h1, h2, h3⟩ := postsR_step h
    exact legsR_good (pOk_amts h2) (postsR_good k h1) _ (Nat.le_refl _) _ h3

/-- D is A and D' together. -/
structure Both (A D D' : DataW Unit) : Prop where
  num : ∀ k, numAt D k = numAt A k + numAt D' k
  key : ∀ k, has D k = (has A k || has D' k)
theorem Both.leg {A D D' E E' : DataW Unit} {l : LegV} (h : Both A D D') (hD : Good D) (hD' : Good D') (hx : amtOk l.x = true) (e : legR D l = some E) (e' : legR D' l = some E') : Both A E E' := by
  obtain ⟨rfl, _, _⟩ := legR_some hD hx e
  obtain ⟨rfl, _, _⟩ := legR_some hD' hx e'
  refine ⟨fun k => ?_, fun k => ?_⟩
  · by_cases e : k = kl l.a
    · subst e
      have := h.num (kl l.a)
      unfold kl at *
      rw [numAt_put_same hD.str.isMap, numAt_put_same hD'.str.isMap]; omega
    · rw [numAt_put_other e, numAt_put_other e]; exact h.num k
  · by_cases e : k = kl l.a
    · subst e
      unfold kl at *
      rw [has_put_same hD.str.isMap (k := .string _) trivial, has_put_same hD'.str.isMap (k := .string _) trivial]; simp
    · rw [has_put_other e, has_put_other e]; exact h.key k
theorem Both.legs {A D D' : DataW Unit} {lg : Nat → LegV} {n : Nat} (h : Both A D D') (hD : Good D) (hD' : Good D') (ha : amts lg n = true) :
    ∀ k, k ≤ n → ∀ E E', legsR D lg k = some E → legsR D' lg k = some E' → Both A E E'
  | 0, _, E, E', e, e' => by obtain rfl := Option.some.inj e; obtain rfl := Option.some.inj e'; exact h
  | k + 1, hk, E, E', e, e' => by
    rw [show legsR D lg (k + 1) = (legsR D lg k).bind fun E => legR E (lg k) from rfl] at e
    rw [show legsR D' lg (k + 1) = (legsR D' lg k).bind fun E => legR E (lg k) from rfl] at e'
    cases f : legsR D lg k with
    | none => rw [f] at e; cases e
    | some F =>
      cases f' : legsR D' lg k with
      | none => rw [f'] at e'; cases e'
      | some F' =>
        rw [f] at e; rw [f'] at e'
        exact (Both.legs h hD hD' ha k (by omega) F F' f f').leg (legsR_good ha hD k (by omega) F f) (legsR_good ha hD' k (by omega) F' f') (amts_at ha (by omega)) e e'

/-- Alike but for where the legs lie. -/
def Alike (p q : PostV) : Prop := q.id = p.id ∧ q.tick = p.tick ∧ q.note = p.note ∧ q.n = p.n ∧ q.lg = p.lg
theorem Alike.ok {p q : PostV} (h : Alike p q) : pOk q = pOk p := by
  obtain ⟨h1, h2, h3, h4, h5⟩ := h
  unfold pOk
  rw [h1, h2, h3, h4, h5]
theorem postsR_alike {ps qs : Nat → PostV} : ∀ k, (∀ i, i < k → Alike (ps i) (qs i)) → postsR qs k = postsR ps k
  | 0, _ => rfl
  | k + 1, h => by
    have ih := postsR_alike k fun i hi => h i (by omega)
    have hk := h k (by omega)
    show (if (postsR qs k).1 = 0 then (if pOk (qs k) then (match legsR (postsR qs k).2 (qs k).lg (qs k).n with | some E => (0, E) | none => (2, .map [])) else (1, .map [])) else postsR qs k) = _
    rw [ih, hk.ok, hk.2.2.2.1, hk.2.2.2.2]
    rfl
theorem joined_stays {js : Nat → PostV} {n m : Nat} (h : (postsR js n).1 ≠ 0) : (postsR js (n + m)).1 ≠ 0 := by
  rw [postsR_stays h (Nat.le_add_right n m)]; exact h
theorem joined_both {js qs : Nat → PostV} {n : Nat} : ∀ k, (∀ i, i < k → Alike (qs i) (js (n + i))) → (postsR js (n + k)).1 = 0 → (postsR qs k).1 = 0 → Both (postsR js n).2 (postsR js (n + k)).2 (postsR qs k).2
  | 0, _, _, _ => ⟨fun k => by
      have e : numAt (postsR qs 0).2 k = 0 := numAt_not rfl
      rw [e, Nat.add_zero]; omega, fun k => by
      have e : has (postsR qs 0).2 k = false := rfl
      rw [e]; simp⟩
  | k + 1, h, hj, hq => by
    obtain ⟨j1, j2, j3⟩ := postsR_step (ps := js) (k := n + k) hj
    obtain ⟨q1, q2, q3⟩ := postsR_step hq
    have ha := h k (by omega)
    rw [ha.2.2.2.1, ha.2.2.2.2] at j3
    exact (joined_both k (fun i hi => h i (by omega)) j1 q1).legs (postsR_good _ j1) (postsR_good _ q1) (pOk_amts q2) _ (Nat.le_refl _) _ _ j3 q3
end Go.Proofs.YtodekiimkbejnaaGreatDoor
