/- A good schedule's text is read as the schedule: plain. -/
import Derived.Test.YtikkocdbaekjmaaGreatDoorFeeH
namespace Go.Proofs.YtikkocdbaekjmaaGreatDoor
open Go.RowKit
/-- A list's pieces between the bytes c. -/
def spl (c : UInt8) : List UInt8 → List (List UInt8)
  | [] => [[]]
  | b :: l => if b = c then [] :: spl c l else match spl c l with
    | [] => [[b]]
    | h :: t => (b :: h) :: t
theorem spl_ne (c : UInt8) : ∀ l, spl c l ≠ []
  | [] => by simp [spl]
  | b :: l => by
    unfold spl
    split
    · simp
    · split <;> simp
theorem spl_append (c : UInt8) : ∀ (x y : List UInt8), spl c (x ++ c :: y) = spl c x ++ spl c y
  | [], y => by simp [spl]
  | b :: x, y => by
    have ih := spl_append c x y
    by_cases h : b = c
    · simp only [List.cons_append, spl, if_pos h, ih]
    · simp only [List.cons_append, spl, if_neg h, ih]
      cases e : spl c x with
      | nil => exact absurd e (spl_ne c x)
      | cons a t => rfl
theorem spl_none (c : UInt8) : ∀ (x : List UInt8), c ∉ x → spl c x = [x]
  | [], _ => rfl
  | b :: x, h => by
    have ih := spl_none c x (fun hm => h (List.mem_cons_of_mem _ hm))
    have hb : b ≠ c := fun e => h (by rw [e]; exact List.mem_cons_self)
    simp only [spl, if_neg hb, ih]
theorem ix_none {c : UInt8} : ∀ {l : List UInt8}, c ∉ l → Lib.index l [c] = -1 := fun {l} h => by
  rw [Lib.index_one]
  induction l with
  | nil => rfl
  | cons b l ih =>
    have hb : (b == c) = false := beq_eq_false_iff_ne.2 fun e => h (by rw [e]; exact List.mem_cons_self)
    unfold Lib.indexByte
    rw [ih fun hm => h (List.mem_cons_of_mem _ hm), hb]
    rfl
theorem ix_at {c : UInt8} : ∀ {a b : List UInt8}, c ∉ a → Lib.index (a ++ c :: b) [c] = a.length := fun {a b} h => by
  rw [Lib.index_one]
  induction a with
  | nil => simp [Lib.indexByte]
  | cons x a ih =>
    have hb : (x == c) = false := beq_eq_false_iff_ne.2 fun e => h (by rw [e]; exact List.mem_cons_self)
    rw [List.cons_append]
    unfold Lib.indexByte
    rw [ih fun hm => h (List.mem_cons_of_mem _ hm), hb]
    have hn : ((a.length : Int) == -1) = false := beq_eq_false_iff_ne.2 (by omega)
    simp [hn]
/-- A list either lacks c or has a first one. -/
theorem first_of (c : UInt8) : ∀ l : List UInt8, c ∉ l ∨ ∃ a b, l = a ++ c :: b ∧ c ∉ a
  | [] => .inl (by simp)
  | x :: l => by
    by_cases h : x = c
    · exact .inr ⟨[], l, by rw [h]; rfl, by simp⟩
    · rcases first_of c l with h1 | ⟨a, b, rfl, h1⟩
      · exact .inl (by simp [h1, Ne.symm h])
      · exact .inr ⟨x :: a, b, rfl, by simp [h1, Ne.symm h]⟩
theorem splitK_spl (c : UInt8) : ∀ (N : Nat) (l : List UInt8), l.length ≤ N → Lib.splitK [c] 0 (Lib.count l [c]) l = spl c l
  | N, l, hN => by
    rcases first_of c l with h | ⟨a, b, rfl, h⟩
    · rw [Lib.count_miss (ix_none h), spl_none c l h]; rfl
    · have hd : (a ++ c :: b).drop (a.length + 1) = b := by
        rw [List.drop_append, List.drop_of_length_le (by omega)]
        simp
      have e := Lib.count_hit (s := a ++ c :: b) (sub := [c]) (by simp) (ix_at h)
      rw [show a.length + [c].length = a.length + 1 from rfl, hd] at e
      rw [e, Nat.add_comm 1]
      have hix := ix_at (b := b) h
      have hm : (Lib.index (a ++ c :: b) [c] == -1) = false := by rw [hix]; exact beq_eq_false_iff_ne.2 (by omega)
      unfold Lib.splitK
      rw [hm, if_neg (by simp), hix]
      have ht : ((a.length : Int)).toNat = a.length := by omega
      rw [ht, Nat.add_zero, show a.length + [c].length = a.length + 1 from rfl, hd, List.take_left, spl_append, spl_none c a h]
      obtain ⟨M, rfl⟩ : ∃ M, N = M + 1 := ⟨N - 1, by simp at hN; omega⟩
      rw [splitK_spl c M b (by simp at hN; omega)]
      rfl
/-- The pieces of a text, as lists. -/
theorem pieces_spl (s : ByteArray) (c : UInt8) : (pieces s c).map (·.data.toList) = spl c s.data.toList := by
  unfold pieces
  rw [Lib.splitB_data]
  exact splitK_spl c _ _ (Nat.le_refl _)
theorem nth_spl (s : ByteArray) (c : UInt8) (i : Nat) : nth (pieces s c) i = (spl c s.data.toList).getD i [] := by
  rw [← pieces_spl]
  unfold nth
  simp only [List.getD_eq_getElem?_getD, List.getElem?_map]
  cases (pieces s c)[i]? <;> rfl
theorem len_spl (s : ByteArray) (c : UInt8) : (pieces s c).length = (spl c s.data.toList).length := by
  rw [← pieces_spl, List.length_map]

/-- Digits. -/
theorem dec_dig : ∀ (N n : Nat), n ≤ N → ∀ b ∈ Lib.decDigits n, 48 ≤ b.toNat ∧ b.toNat ≤ 57
  | N, n, h, b, hb => by
    rw [Lib.decDigits] at hb
    split at hb
    · rename_i h10
      rw [List.mem_singleton] at hb
      rw [hb, UInt8.toNat_ofNat']
      omega
    · rename_i h10
      obtain ⟨M, rfl⟩ : ∃ M, N = M + 1 := ⟨N - 1, by omega⟩
      rcases List.mem_append.1 hb with hb | hb
      · exact dec_dig M (n / 10) (by omega) b hb
      · rw [List.mem_singleton] at hb
        rw [hb, UInt8.toNat_ofNat']
        omega
theorem dec_acc : ∀ (N n : Nat), n ≤ N → numAcc (Lib.decDigits n) = n
  | N, n, h => by
    rw [Lib.decDigits]
    split
    · rename_i h10
      show 10 * 0 + ((UInt8.ofNat (48 + n)).toNat - 48) = n
      rw [UInt8.toNat_ofNat']
      omega
    · rename_i h10
      obtain ⟨M, rfl⟩ : ∃ M, N = M + 1 := ⟨N - 1, by omega⟩
      rw [numAcc_snoc, dec_acc M (n / 10) (by omega), UInt8.toNat_ofNat']
      omega
theorem dec_ne (n : Nat) : Lib.decDigits n ≠ [] := by
  rw [Lib.decDigits]; split <;> simp
theorem numF_dec {n : Nat} (h : n ≤ 999999999999) : numF (Lib.decDigits n) = some n := by
  unfold numF
  have h1 : (Lib.decDigits n).length ≤ 12 := by rw [Lib.decDigits_length]; exact nDigits_le 11 n (by omega)
  have h2 : (Lib.decDigits n).all isDig = true := by
    rw [List.all_eq_true]
    intro b hb
    exact decide_eq_true (dec_dig n n (Nat.le_refl _) b hb)
  rw [if_pos ⟨dec_ne n, h1, h2⟩, dec_acc n n (Nat.le_refl _)]
theorem dg_out {x : Int} {c : UInt8} (hc : c.toNat < 48 ∨ 57 < c.toNat) : c ∉ dg x := fun h => by
  have := dec_dig _ _ (Nat.le_refl _) c h
  omega
theorem numF_dg {x : Int} (h : 0 ≤ x ∧ x ≤ 999999999999) : numF (dg x) = some x.toNat := numF_dec (by omega)

/-- One tier comes back. -/
theorem cut_at {a b : List UInt8} {c : UInt8} (h : c ∉ a) : Lib.cut (a ++ c :: b) [c] = (a, b, true) := by
  unfold Lib.cut
  rw [ix_at h, if_pos (by omega)]
  have ht : ((a.length : Int)).toNat = a.length := by omega
  rw [ht, List.take_left, show a.length + [c].length = a.length + 1 from rfl, List.drop_append, List.drop_of_length_le (by omega)]
  simp
theorem tierF_txt {x : Tier} (h1 : 0 ≤ x.fr ∧ x.fr ≤ 999999999999) (h2 : 0 ≤ x.fl ∧ x.fl ≤ 999999999999) (h3 : 0 ≤ x.rt ∧ x.rt ≤ 999999999999) : tierF (tierTxt x) = some (x.fr.toNat, x.fl.toNat, x.rt.toNat) := by
  have e : tierTxt x = dg x.fr ++ 58 :: (dg x.fl ++ 43 :: dg x.rt) := by simp [tierTxt]
  unfold tierF
  rw [e, cut_at (dg_out (by decide))]
  simp only
  rw [cut_at (dg_out (by decide))]
  simp only [numF_dg h1, numF_dg h2, numF_dg h3]
/-- The tiers' text is its tiers' texts. -/
theorem spl_tiers (t : Nat → Tier) : ∀ k, spl 44 (tiersTxt t (k + 1)) = (List.range (k + 1)).map fun i => tierTxt (t i)
  | 0 => by
    have h : (44 : UInt8) ∉ tierTxt (t 0) := by
      unfold tierTxt
      simp only [List.mem_append, List.mem_singleton]
      rintro ((((h | h) | h) | h) | h)
      · exact dg_out (by decide) h
      · exact absurd h (by decide)
      · exact dg_out (by decide) h
      · exact absurd h (by decide)
      · exact dg_out (by decide) h
    show spl 44 (tiersTxt t 0 ++ comma 0 ++ tierTxt (t 0)) = _
    simp only [tiersTxt, comma, if_pos, List.nil_append]
    rw [spl_none _ _ h]; rfl
  | k + 1 => by
    have h : (44 : UInt8) ∉ tierTxt (t (k + 1)) := by
      unfold tierTxt
      simp only [List.mem_append, List.mem_singleton]
      rintro ((((h | h) | h) | h) | h)
      · exact dg_out (by decide) h
      · exact absurd h (by decide)
      · exact dg_out (by decide) h
      · exact absurd h (by decide)
      · exact dg_out (by decide) h
    have e : tiersTxt t (k + 2) = tiersTxt t (k + 1) ++ 44 :: tierTxt (t (k + 1)) := by
      show tiersTxt t (k + 1) ++ comma (k + 1) ++ tierTxt (t (k + 1)) = _
      simp [comma]
    rw [e, spl_append, spl_tiers t k, spl_none _ _ h, List.range_succ (n := k + 1), List.map_append]
    rfl
theorem no_space_tier (x : Tier) : (32 : UInt8) ∉ tierTxt x := by
  unfold tierTxt
  simp only [List.mem_append, List.mem_singleton]
  rintro ((((h | h) | h) | h) | h)
  · exact dg_out (by decide) h
  · exact absurd h (by decide)
  · exact dg_out (by decide) h
  · exact absurd h (by decide)
  · exact dg_out (by decide) h
theorem no_space (t : Nat → Tier) : ∀ k, (32 : UInt8) ∉ tiersTxt t k
  | 0 => by simp [tiersTxt]
  | k + 1 => by
    unfold tiersTxt comma
    simp only [List.mem_append]
    rintro ((h | h) | h)
    · exact no_space t k h
    · split at h
      · cases h
      · simp at h
    · exact no_space_tier _ h
/-- The words of a schedule's text. -/
theorem spl_fee (n : Nat) (t : Nat → Tier) (l m : Int) : spl 32 (feeTxt n t l m) = [tiersTxt t n] ++ (if l = 0 then [] else [[109, 105, 110], dg l]) ++ (if m = 0 then [] else [[109, 97, 120], dg m]) := by
  have hT := spl_none 32 _ (no_space t n)
  have hl := spl_none 32 (dg l) (dg_out (by decide))
  have hm := spl_none 32 (dg m) (dg_out (by decide))
  have e1 : spl 32 [109, 105, 110] = [[109, 105, 110]] := by decide
  have e2 : spl 32 [109, 97, 120] = [[109, 97, 120]] := by decide
  unfold feeTxt minTxt maxTxt
  by_cases h1 : l = 0
  · by_cases h2 : m = 0
    · rw [if_pos h1, if_pos h2, if_pos h1, if_pos h2]; simp [hT]
    · rw [if_pos h1, if_neg h2, if_pos h1, if_neg h2]
      rw [show tiersTxt t n ++ [] ++ ([32, 109, 97, 120, 32] ++ dg m) = tiersTxt t n ++ 32 :: ([109, 97, 120] ++ 32 :: dg m) by simp, spl_append, spl_append, hT, e2, hm]
      rfl
  · by_cases h2 : m = 0
    · rw [if_neg h1, if_pos h2, if_neg h1, if_pos h2]
      rw [show tiersTxt t n ++ ([32, 109, 105, 110, 32] ++ dg l) ++ [] = tiersTxt t n ++ 32 :: ([109, 105, 110] ++ 32 :: dg l) by simp, spl_append, spl_append, hT, e1, hl]
      rfl
    · rw [if_neg h1, if_neg h2, if_neg h1, if_neg h2]
      rw [show tiersTxt t n ++ ([32, 109, 105, 110, 32] ++ dg l) ++ ([32, 109, 97, 120, 32] ++ dg m) = tiersTxt t n ++ 32 :: ([109, 105, 110] ++ 32 :: (dg l ++ 32 :: ([109, 97, 120] ++ 32 :: dg m))) by simp, spl_append, spl_append, spl_append, spl_append, hT, e1, hl, e2, hm]
      rfl

/-- A schedule as numbers. -/
structure GoodN (ts : List (Nat × Nat × Nat)) (l m : Nat) : Prop where
  good : goodB ts.length (tierAt ts) l m = true
theorem tierAt_get (ts : List (Nat × Nat × Nat)) (i : Nat) (h : i < ts.length) : ((tierAt ts i).fr.toNat, (tierAt ts i).fl.toNat, (tierAt ts i).rt.toNat) = ts[i] := by
  unfold tierAt
  rw [List.getD_eq_getElem?_getD, List.getElem?_eq_getElem h]
  simp
theorem tiersTo_map {p : Nat → List UInt8} {ts : List (Nat × Nat × Nat)} (h : ∀ i (hi : i < ts.length), tierF (p i) = some ts[i]) : ∀ k, k ≤ ts.length → tiersTo p k = some (ts.take k)
  | 0, _ => rfl
  | k + 1, hk => by
    unfold tiersTo
    rw [tiersTo_map h k (by omega)]
    simp only [h k (by omega)]
    rw [List.take_succ_eq_append_getElem (by omega)]
/-- What a good schedule's text is read as. -/
theorem read_back {s : ByteArray} {ts : List (Nat × Nat × Nat)} {l m : Nat} (hG : goodB ts.length (tierAt ts) l m = true) (hs : feeTxt ts.length (tierAt ts) l m = s.data.toList) : readF s = some (ts, l, m) := by
  have GP := goodP hG
  have hw := spl_fee ts.length (tierAt ts) l m
  rw [hs] at hw
  have hw0 : nth (pieces s 32) 0 = tiersTxt (tierAt ts) ts.length := by rw [nth_spl, hw]; rfl
  have hw0' : ((pieces s 32).getD 0 ⟨#[]⟩).data.toList = tiersTxt (tierAt ts) ts.length := hw0
  obtain ⟨n, hn⟩ : ∃ n, ts.length = n + 1 := ⟨ts.length - 1, by have := GP.n1; omega⟩
  have hp : spl 44 ((pieces s 32).getD 0 ⟨#[]⟩).data.toList = (List.range (n + 1)).map fun i => tierTxt (tierAt ts i) := by
    rw [hw0', hn]; exact spl_tiers _ n
  have hlen : (pieces ((pieces s 32).getD 0 ⟨#[]⟩) 44).length = ts.length := by rw [len_spl, hp, hn]; simp
  have ht : tiersTo (nth (pieces ((pieces s 32).getD 0 ⟨#[]⟩) 44)) (pieces ((pieces s 32).getD 0 ⟨#[]⟩) 44).length = some ts := by
    rw [hlen, tiersTo_map (ts := ts) (fun i hi => ?_) ts.length (Nat.le_refl _), List.take_length]
    rw [nth_spl, hp]
    have e : ((List.range (n + 1)).map fun i => tierTxt (tierAt ts i)).getD i [] = tierTxt (tierAt ts i) := by
      rw [List.getD_eq_getElem?_getD, List.getElem?_map, List.getElem?_range (by omega)]; rfl
    rw [e, tierF_txt (by have := GP.fr i hi; omega) (by have := GP.fl i hi; omega) (by have := GP.rt i hi; omega), tierAt_get ts i hi]
  have hL : numF (dg (l : Int)) = some l := by rw [numF_dg (by have := GP.l0; omega)]; simp
  have hM : numF (dg (m : Int)) = some m := by rw [numF_dg (by have := GP.m0; omega)]; simp
  have hW : ∀ i, nth (pieces s 32) i = ([tiersTxt (tierAt ts) ts.length] ++ (if (l : Int) = 0 then [] else [[109, 105, 110], dg l]) ++ (if (m : Int) = 0 then [] else [[109, 97, 120], dg m])).getD i [] := fun i => by rw [nth_spl, hw]
  have hWL : (pieces s 32).length = ([tiersTxt (tierAt ts) ts.length] ++ (if (l : Int) = 0 then [] else [[109, 105, 110], dg l]) ++ (if (m : Int) = 0 then [] else [[109, 97, 120], dg m])).length := by rw [len_spl, hw]
  unfold readF
  rw [ht]
  have k1 : ¬ (([109, 97, 120] : List UInt8) = [109, 105, 110]) := by decide
  by_cases h1 : (l : Int) = 0
  · by_cases h2 : (m : Int) = 0
    · rw [if_pos h1, if_pos h2] at hWL
      simp only [hWL]
      have e1 : l = 0 := by omega
      have e2 : m = 0 := by omega
      subst e1; subst e2
      simp [pairsTo]
    · rw [if_pos h1, if_neg h2] at hWL
      simp only [if_pos h1, if_neg h2] at hW
      simp only [hWL]
      have e1 : l = 0 := by omega
      subst e1
      simp [pairsTo, pairStep, hW, hM]
  · by_cases h2 : (m : Int) = 0
    · rw [if_neg h1, if_pos h2] at hWL
      simp only [if_neg h1, if_pos h2] at hW
      simp only [hWL]
      have e2 : m = 0 := by omega
      subst e2
      simp [pairsTo, pairStep, hW, hL]
    · rw [if_neg h1, if_neg h2] at hWL
      simp only [if_neg h1, if_neg h2] at hW
      simp only [hWL]
      simp [pairsTo, pairStep, hW, hL, hM]
/-- Parse takes a text just if it is the text of a good schedule; then it is that. -/
theorem parseF_iff {s : ByteArray} {ts : List (Nat × Nat × Nat)} {l m : Nat} : parseF s = some (ts, l, m) ↔ goodB ts.length (tierAt ts) l m = true ∧ feeTxt ts.length (tierAt ts) l m = s.data.toList := by
  constructor
  · intro h
    unfold parseF at h
    split at h
    · cases h
    · split at h
      · rename_i hh
        cases h; exact hh
      · cases h
  · intro ⟨h1, h2⟩
    unfold parseF
    rw [read_back h1 h2]
    exact if_pos ⟨h1, h2⟩
end Go.Proofs.YtikkocdbaekjmaaGreatDoor
