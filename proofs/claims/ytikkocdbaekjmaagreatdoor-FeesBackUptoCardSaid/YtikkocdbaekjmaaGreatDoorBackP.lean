/- FeesBack: the plain law: a good schedule comes back from its text; two schedules have one text just if they are alike. -/
import Derived.Test.YtikkocdbaekjmaaGreatDoorRoundP
import Derived.Test.YtikkocdbaekjmaaGreatDoorSameB
namespace Go.Proofs.YtikkocdbaekjmaaGreatDoor
open Go.RowKit
theorem goodTo_congr {t u : Nat → Tier} : ∀ n, (∀ i, i < n → t i = u i) → goodTo t n = goodTo u n
  | 0, _ => rfl
  | n + 1, h => by
    unfold goodTo
    rw [goodTo_congr n (fun i hi => h i (by omega))]
    unfold goodT
    rw [h n (by omega)]
    by_cases e : n = 0
    · subst e; rfl
    · rw [h (n - 1) (by omega)]
theorem goodB_congr {n : Nat} {t u : Nat → Tier} {l m : Int} (h : ∀ i, i < n → t i = u i) : goodB n t l m = goodB n u l m := by
  unfold goodB
  rw [goodTo_congr n h]
  by_cases e : 1 ≤ n ∧ n ≤ 6
  · rw [h 0 (by omega)]
  · rw [decide_eq_false e]; simp
theorem tiersTxt_congr {t u : Nat → Tier} : ∀ n, (∀ i, i < n → t i = u i) → tiersTxt t n = tiersTxt u n
  | 0, _ => rfl
  | n + 1, h => by
    unfold tiersTxt
    rw [tiersTxt_congr n (fun i hi => h i (by omega)), h n (by omega)]
theorem feeTxt_congr {n : Nat} {t u : Nat → Tier} {l m : Int} (h : ∀ i, i < n → t i = u i) : feeTxt n t l m = feeTxt n u l m := by
  unfold feeTxt; rw [tiersTxt_congr n h]
/-- A schedule's tiers as a list. -/
def listOf (n : Nat) (t : Nat → Tier) : List (Nat × Nat × Nat) := (List.range n).map fun i => ((t i).fr.toNat, (t i).fl.toNat, (t i).rt.toNat)
theorem listOf_len (n : Nat) (t : Nat → Tier) : (listOf n t).length = n := by simp [listOf]
theorem listOf_at {n : Nat} {t : Nat → Tier} {l m : Int} (GP : GoodP n t l m) : ∀ i, i < n → tierAt (listOf n t) i = t i := fun i hi => by
  have h1 := GP.fr i hi
  have h2 := GP.fl i hi
  have h3 := GP.rt i hi
  unfold tierAt listOf
  have e : ((List.range n).map fun i => ((t i).fr.toNat, (t i).fl.toNat, (t i).rt.toNat)).getD i (0, 0, 0) = ((t i).fr.toNat, (t i).fl.toNat, (t i).rt.toNat) := by
    simp [List.getD_eq_getElem?_getD, hi]
  rw [e]
  clear e
  generalize t i = x at h1 h2 h3 ⊢
  obtain ⟨a, b, c⟩ := x
  simp only at h1 h2 h3 ⊢
  rw [Int.toNat_of_nonneg h1.1, Int.toNat_of_nonneg h2.1, Int.toNat_of_nonneg h3.1]
/-- A good schedule comes back from its text. -/
theorem good_back {n : Nat} {t : Nat → Tier} {l m : Int} (h : goodB n t l m = true) : parseF ⟨(feeTxt n t l m).toArray⟩ = some (listOf n t, l.toNat, m.toNat) := by
  have GP := goodP h
  have ha := listOf_at GP
  rw [parseF_iff, listOf_len, Int.toNat_of_nonneg GP.l0.1, Int.toNat_of_nonneg GP.m0.1, goodB_congr ha, feeTxt_congr ha]
  exact ⟨h, rfl⟩
theorem tierEq_refl (x : Tier) : tierEq x x = true := by unfold tierEq; simp
theorem tierEq_iff {x y : Tier} : tierEq x y = true ↔ x = y := by
  obtain ⟨a, b, c⟩ := x
  obtain ⟨d, e, f⟩ := y
  unfold tierEq
  simp [Bool.and_eq_true, and_assoc]
theorem tiersEq_iff {t u : Nat → Tier} : ∀ n, tiersEq t u n = true ↔ ∀ i, i < n → t i = u i
  | 0 => ⟨fun _ i hi => by omega, fun _ => rfl⟩
  | n + 1 => by
    unfold tiersEq
    rw [Bool.and_eq_true, tiersEq_iff n, tierEq_iff]
    constructor
    · rintro ⟨h1, h2⟩ i hi
      by_cases e : i = n
      · subst e; exact h2
      · exact h1 i (by omega)
    · intro h
      exact ⟨fun i hi => h i (by omega), h n (by omega)⟩
theorem sameB_iff {n n' : Nat} {t u : Nat → Tier} {l m l' m' : Int} : sameB n t l m n' u l' m' = true ↔ l = l' ∧ m = m' ∧ n = n' ∧ ∀ i, i < n → t i = u i := by
  unfold sameB
  rw [Bool.and_eq_true, Bool.and_eq_true, Bool.and_eq_true, tiersEq_iff, beq_iff_eq, beq_iff_eq, beq_iff_eq, and_assoc, and_assoc]
/-- What comes back is the schedule. -/
theorem back_same {n : Nat} {t : Nat → Tier} {l m : Int} (h : goodB n t l m = true) : sameB (listOf n t).length (tierAt (listOf n t)) (l.toNat : Nat) (m.toNat : Nat) n t l m = true := by
  have GP := goodP h
  rw [sameB_iff, listOf_len, Int.toNat_of_nonneg GP.l0.1, Int.toNat_of_nonneg GP.m0.1]
  exact ⟨rfl, rfl, rfl, listOf_at GP⟩
/-- Two good schedules have one text just if they are alike. -/
theorem text_same {n n' : Nat} {t u : Nat → Tier} {l m l' m' : Int} (h : goodB n t l m = true) (k : goodB n' u l' m' = true) : feeTxt n t l m = feeTxt n' u l' m' ↔ sameB n t l m n' u l' m' = true := by
  rw [sameB_iff]
  have GP := goodP h
  have GQ := goodP k
  constructor
  · intro e
    have e1 := good_back h
    rw [e, good_back k] at e1
    injection e1 with e1
    injection e1 with e1 e2
    injection e2 with e2 e3
    have hn : n' = n := by have := congrArg List.length e1; rwa [listOf_len, listOf_len] at this
    subst hn
    have h1 := GP.l0; have h2 := GP.m0; have h3 := GQ.l0; have h4 := GQ.m0
    refine ⟨by omega, by omega, rfl, fun i hi => ?_⟩
    rw [← listOf_at GP i hi, ← listOf_at GQ i hi, e1]
  · rintro ⟨rfl, rfl, rfl, e⟩
    exact feeTxt_congr e
theorem dg_short {x : Int} (h : 0 ≤ x ∧ x ≤ 10000000000) : (dg x).length ≤ 11 := by
  unfold dg; rw [Lib.decDigits_length]; exact nDigits_le 10 _ (by omega)
theorem dg_rate {x : Int} (h : 0 ≤ x ∧ x ≤ 10000) : (dg x).length ≤ 5 := by
  unfold dg; rw [Lib.decDigits_length]; exact nDigits_le 4 _ (by omega)
theorem tiers_short {t : Nat → Tier} {N : Nat} (h0 : 0 < N → (t 0).fr = 0) (h : ∀ i, i < N → (0 ≤ (t i).fr ∧ (t i).fr ≤ 10000000000) ∧ (0 ≤ (t i).fl ∧ (t i).fl ≤ 10000000000) ∧ (0 ≤ (t i).rt ∧ (t i).rt ≤ 10000)) :
    ∀ k, k ≤ N → (tiersTxt t k).length ≤ k * 30 - 11
  | 0, _ => by simp [tiersTxt]
  | k + 1, hk => by
    obtain ⟨h1, h2, h3⟩ := h k (by omega)
    have e1 := dg_short h1
    have e2 := dg_short h2
    have e3 := dg_rate h3
    have ih := tiers_short h0 h k (by omega)
    unfold tiersTxt tierTxt
    simp only [List.length_append, List.length_cons, List.length_nil]
    by_cases e : k = 0
    · subst e
      have hz : (dg (t 0).fr).length = 1 := by rw [h0 (by omega)]; show (Lib.decDigits 0).length = 1; rw [Lib.decDigits_one (by decide)]; rfl
      simp only [comma, if_pos, List.length_nil, tiersTxt]
      omega
    · simp only [comma, if_neg e, List.length_cons, List.length_nil]
      omega
theorem fee_short {n : Nat} {t : Nat → Tier} {l m : Int} (h : goodB n t l m = true) : (feeTxt n t l m).length ≤ 204 := by
  have GP := goodP h
  have h1 := tiers_short (t := t) (N := n) (fun _ => GP.first) (fun i hi => ⟨GP.fr i hi, GP.fl i hi, GP.rt i hi⟩) n (Nat.le_refl _)
  have h2 := dg_short GP.l0
  have h3 := dg_short GP.m0
  have hn := GP.n6
  have h4 : (minTxt l).length ≤ 16 := by unfold minTxt; split <;> simp; omega
  have h5 : (maxTxt m).length ≤ 16 := by unfold maxTxt; split <;> simp; omega
  unfold feeTxt
  rw [List.length_append, List.length_append]
  omega
end Go.Proofs.YtikkocdbaekjmaaGreatDoor
