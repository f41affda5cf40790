/- AuditJoins: Replay's answer as legs; amount over it. -/
import Derived.Test.YtodekiimkbejnaaGreatDoorJoinsP
import Derived.Test.YtodekiimkbejnaaGreatDoorReplay
namespace Go.Proofs.YtodekiimkbejnaaGreatDoor
open Go.RowKit Go.WideMaps Go.Maps Go.Sort

/-- The legs of Replay's answer. -/
def repLegs (D : DataW Unit) : Nat → LegV := fun i => ⟨⟨((sortedKeys D).getD i []).toArray⟩, numAt D (.string ((sortedKeys D).getD i []))⟩
theorem mem_sortedKeys {D : DataW Unit} (x : List UInt8) : x ∈ sortedKeys D ↔ x ∈ strKeys D := (List.mergeSort_perm _ _).mem_iff
theorem legCells_length (D : DataW Unit) : ∀ K : List (List UInt8), (legCells D K).length = K.length * 2
  | [] => rfl
  | s :: r => by simp [legCells, legCells_length D r]; omega
theorem legCells_at (D : DataW Unit) : ∀ (K : List (List UInt8)) (i : Nat), i < K.length → (legCells D K)[i * 2]? = some (.string ⟨(K.getD i []).toArray⟩) ∧ (legCells D K)[i * 2 + 1]? = some (.int .i64 (numAt D (.string (K.getD i []))))
  | [], i, h => by simp at h
  | s :: r, 0, _ => by simp [legCells]
  | s :: r, i + 1, h => by
    have := legCells_at D r i (by simpa using h)
    have e1 : (i + 1) * 2 = (i * 2) + 1 + 1 := by omega
    simp only [legCells, e1, List.getElem?_cons_succ, List.getD_cons_succ]
    exact this
theorem add_at (g j : Nat) : (⟨g, 0, none⟩ : Addr).add j = ⟨g, j, none⟩ := by unfold Addr.add; split <;> simp_all
theorem toList_eq (s : ByteArray) : s.toList = s.data.toList := by rw [Lib.toList_data]
/-- Keys are no longer than M. -/
def KeysLe (D : DataW Unit) : Prop := ∀ x, has D (.string x) = true → x.length ≤ 140737488351232
theorem repLegs_ok {D : DataW Unit} (hG : Good D) (hK : KeysLe D) (i : Nat) : (repLegs D i).Ok := by
  have hl := hG.lim (.string ((sortedKeys D).getD i []))
  refine ⟨?_, by show -9223372036854775808 ≤ numAt D _; omega, by show numAt D _ ≤ _; omega⟩
  show ((sortedKeys D).getD i []).toArray.size ≤ _
  rw [List.size_toArray]
  rcases Nat.lt_or_ge i (sortedKeys D).length with h | h
  · have hm : (sortedKeys D).getD i [] ∈ sortedKeys D := by
      simp [List.getD, List.getElem?_eq_getElem h]
    exact hK _ ((mem_strKeys hG.str _).1 ((mem_sortedKeys _).1 hm))
  · simp [List.getD, List.getElem?_eq_none h]
theorem legs_of_row {w : World} {B : Nat} {v : Value} {D : DataW Unit} (h : w.ownsRow B 37 2 v (sortedKeys D).length (legCells D (sortedKeys D))) (hG : Good D) (hK : KeysLe D) :
    ∃ A c, v = .slice A (sortedKeys D).length c ∧ LegsAt w A (sortedKeys D).length (repLegs D) ∧ ∀ a, A = some a → ∃ g, a = ⟨g, 0, none⟩ ∧ B ≤ g ∧ g < w.heap.size := by
  rcases h.2 with ⟨rfl, h0⟩ | ⟨g, cap, cur, rfl, hB, hg, hn, hm, hs, ht⟩
  · exact ⟨none, 0, by rw [h0], fun h => by omega, fun a e => by cases e⟩
  · have hlt : g < w.heap.size := by
      rcases Nat.lt_or_ge g w.heap.size with hlt | hge
      · exact hlt
      · rw [Array.getElem?_eq_none hge] at hg; cases hg
    refine ⟨_, _, rfl, fun _ => ⟨g, 0, rfl, hlt, fun i hi => ?_⟩, fun a e => ⟨g, (Option.some.inj e).symm, hB, hlt⟩⟩
    obtain ⟨e1, e2⟩ := legCells_at D (sortedKeys D) i hi
    have c1 := h.cells (g := g) rfl _ _ e1
    have c2 := h.cells (g := g) rfl _ _ e2
    rw [add_at] at c1 c2
    rw [Nat.zero_add]
    exact ⟨c1, c2, repLegs_ok hG hK i⟩
/-- The keys come from the legs. -/
theorem legsR_keys {lg : Nat → LegV} {n : Nat} (ha : amts lg n = true) (hs : ∀ i, i < n → (lg i).a.size ≤ 140737488351232) {D : DataW Unit} (hG : Good D) (hD : KeysLe D) : ∀ k, k ≤ n → ∀ E, legsR D lg k = some E → KeysLe E
  | 0, _, E, h => by obtain rfl := Option.some.inj h; exact hD
  | k + 1, hk, E, h => by
    cases e : legsR D lg k with
    | none => rw [show legsR D lg (k + 1) = (legsR D lg k).bind fun E => legR E (lg k) from rfl, e] at h; cases h
    | some F =>
      rw [show legsR D lg (k + 1) = (legsR D lg k).bind fun E => legR E (lg k) from rfl, e] at h
      have hF := legsR_keys ha hs hG hD k (by omega) F e
      obtain ⟨rfl, _, _⟩ := legR_some (legsR_good ha hG k (by omega) F e) (amts_at ha (by omega)) h
      intro x hx
      by_cases ex : Lit.string x = kl (lg k).a
      · have : x = (lg k).a.data.toList := by unfold kl at ex; injection ex
        rw [this, Array.length_toList]
        exact hs k (by omega)
      · rw [has_put_other ex] at hx
        exact hF x hx
theorem postsR_keys {ps : Nat → PostV} : ∀ k, (∀ i, i < k → ∀ j, j < (ps i).n → ((ps i).lg j).a.size ≤ 140737488351232) → (postsR ps k).1 = 0 → KeysLe (postsR ps k).2
  | 0, _, _ => fun x hx => by cases hx
  | k + 1, hs, h => by
    obtain ⟨h1, h2, h3⟩ := postsR_step h
    exact legsR_keys (pOk_amts h2) (hs k (by omega)) (postsR_good k h1) (postsR_keys k (fun i hi => hs i (by omega)) h1) _ (Nat.le_refl _) _ h3
theorem legs_sizes {w : World} {A : Option Addr} {n : Nat} {ps : Nat → PostV} (h : PostsAt w A n ps) : ∀ i, i < n → ∀ j, j < (ps i).n → ((ps i).lg j).a.size ≤ 140737488351232 := by
  intro i hi j hj
  obtain ⟨_, _, _, _, hc⟩ := h (by omega)
  obtain ⟨_, _, hl, _⟩ := hc i hi
  obtain ⟨_, _, _, _, hc⟩ := hl (by omega)
  exact (hc j hj).2.2.1
/-- The keys ascend. -/
theorem sorted_lt {D : DataW Unit} (hG : Good D) {i j : Nat} (h : i < j) (hj : j < (sortedKeys D).length) : (sortedKeys D).getD i [] < (sortedKeys D).getD j [] := by
  have tr : ∀ a b c : List UInt8, leB a b = true → leB b c = true → leB a c = true := fun a b c h1 h2 => by simp only [leB, decide_eq_true_eq] at *; exact List.le_trans h1 h2
  have to : ∀ a b : List UInt8, (leB a b || leB b a) = true := fun a b => by simp only [leB, Bool.or_eq_true, decide_eq_true_eq]; exact List.le_total a b
  have hp := List.pairwise_mergeSort tr to (strKeys D)
  have hn : (sortedKeys D).Nodup := (List.mergeSort_perm _ _).nodup_iff.2 (nodup_strKeys hG.str)
  have h1 := List.pairwise_iff_getElem.1 hp i j (by show i < (sortedKeys D).length; omega) hj h
  have h2 := List.pairwise_iff_getElem.1 hn i j (by omega) hj h
  have hi : i < (sortedKeys D).length := by omega
  simp only [List.getD, List.getElem?_eq_getElem hi, List.getElem?_eq_getElem hj, Option.getD_some]
  simp only [leB, decide_eq_true_eq] at h1
  by_cases h3 : (sortedKeys D)[i] < (sortedKeys D)[j]
  · exact h3
  · exact absurd (List.le_antisymm h1 (List.not_lt.1 h3)) h2
end Go.Proofs.YtodekiimkbejnaaGreatDoor
