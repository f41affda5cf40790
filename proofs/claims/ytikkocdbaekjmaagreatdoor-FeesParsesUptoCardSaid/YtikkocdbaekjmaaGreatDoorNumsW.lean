/- remitref18.numbers: walked. -/
import Derived.Test.YtikkocdbaekjmaaGreatDoorFeeH
import Derived.Test.YtikkocdbaekjmaaGreatDoorHeldR
import Derived.Test.YtikkocdbaekjmaaGreatDoorRefD
namespace Go.Proofs.YtikkocdbaekjmaaGreatDoor
open Go.RowKit
/-- A list's pieces between the bytes c. -/
def spl (c : UInt8) : List UInt8 → List (List UInt8)
  | [] => [[]]
  | b :: l => if b = c then [] :: spl c l else match spl c l with
    | [] => [[b]]
    | h :: t => (b :: h) :: t
theorem spl_ne (c : UInt8) : ∀ l, spl c l ≠ []
  | [] => by simp [spl]
  | b :: l => by
    unfold spl
    split
    · simp
    · split <;> simp
theorem spl_append (c : UInt8) : ∀ (x y : List UInt8), spl c (x ++ c :: y) = spl c x ++ spl c y
  | [], y => by simp [spl]
  | b :: x, y => by
    have ih := spl_append c x y
    by_cases h : b = c
    · simp only [List.cons_append, spl, if_pos h, ih]
    · simp only [List.cons_append, spl, if_neg h, ih]
      cases e : spl c x with
      | nil => exact absurd e (spl_ne c x)
      | cons a t => rfl
theorem spl_none (c : UInt8) : ∀ (x : List UInt8), c ∉ x → spl c x = [x]
  | [], _ => rfl
  | b :: x, h => by
    have ih := spl_none c x (fun hm => h (List.mem_cons_of_mem _ hm))
    have hb : b ≠ c := fun e => h (by rw [e]; exact List.mem_cons_self)
    simp only [spl, if_neg hb, ih]
theorem ix_none {c : UInt8} : ∀ {l : List UInt8}, c ∉ l → Lib.index l [c] = -1 := fun {l} h => by
  rw [Lib.index_one]
  induction l with
  | nil => rfl
  | cons b l ih =>
    have hb : (b == c) = false := beq_eq_false_iff_ne.2 fun e => h (by rw [e]; exact List.mem_cons_self)
    unfold Lib.indexByte
    rw [ih fun hm => h (List.mem_cons_of_mem _ hm), hb]
    rfl
theorem ix_at {c : UInt8} : ∀ {a b : List UInt8}, c ∉ a → Lib.index (a ++ c :: b) [c] = a.length := fun {a b} h => by
  rw [Lib.index_one]
  induction a with
  | nil => simp [Lib.indexByte]
  | cons x a ih =>
    have hb : (x == c) = false := beq_eq_false_iff_ne.2 fun e => h (by rw [e]; exact List.mem_cons_self)
    rw [List.cons_append]
    unfold Lib.indexByte
    rw [ih fun hm => h (List.mem_cons_of_mem _ hm), hb]
    have hn : ((a.length : Int) == -1) = false := beq_eq_false_iff_ne.2 (by omega)
    simp [hn]
/-- A list either lacks c or has a first one. -/
theorem first_of (c : UInt8) : ∀ l : List UInt8, c ∉ l ∨ ∃ a b, l = a ++ c :: b ∧ c ∉ a
  | [] => .inl (by simp)
  | x :: l => by
    by_cases h : x = c
    · exact .inr ⟨[], l, by rw [h]; rfl, by simp⟩
    · rcases first_of c l with h1 | ⟨a, b, rfl, h1⟩
      · exact .inl (by simp [h1, Ne.symm h])
      · exact .inr ⟨x :: a, b, rfl, by simp [h1, Ne.symm h]⟩
theorem splitK_spl (c : UInt8) : ∀ (N : Nat) (l : List UInt8), l.length ≤ N → Lib.splitK [c] 0 (Lib.count l [c]) l = spl c l
  | N, l, hN => by
    rcases first_of c l with h | ⟨a, b, rfl, h⟩
    · rw [Lib.count_miss (ix_none h), spl_none c l h]; rfl
    · have hd : (a ++ c :: b).drop (a.length + 1) = b := by
        rw [List.drop_append, List.drop_of_length_le (by omega)]
        simp
      have e := Lib.count_hit (s := a ++ c :: b) (sub := [c]) (by simp) (ix_at h)
      rw [show a.length + [c].length = a.length + 1 from rfl, hd] at e
      rw [e, Nat.add_comm 1]
      have hix := ix_at (b := b) h
      have hm : (Lib.index (a ++ c :: b) [c] == -1) = false := by rw [hix]; exact beq_eq_false_iff_ne.2 (by omega)
      unfold Lib.splitK
      rw [hm, if_neg (by simp), hix]
      have ht : ((a.length : Int)).toNat = a.length := by omega
      rw [ht, Nat.add_zero, show a.length + [c].length = a.length + 1 from rfl, hd, List.take_left, spl_append, spl_none c a h]
      obtain ⟨M, rfl⟩ : ∃ M, N = M + 1 := ⟨N - 1, by simp at hN; omega⟩
      rw [splitK_spl c M b (by simp at hN; omega)]
      rfl
/-- The pieces of a text, as lists. -/
theorem pieces_spl (s : ByteArray) (c : UInt8) : (pieces s c).map (·.data.toList) = spl c s.data.toList := by
  unfold pieces
  rw [Lib.splitB_data]
  exact splitK_spl c _ _ (Nat.le_refl _)
theorem nth_spl (s : ByteArray) (c : UInt8) (i : Nat) : nth (pieces s c) i = (spl c s.data.toList).getD i [] := by
  rw [← pieces_spl]
  unfold nth
  simp only [List.getD_eq_getElem?_getD, List.getElem?_map]
  cases (pieces s c)[i]? <;> rfl
theorem len_spl (s : ByteArray) (c : UInt8) : (pieces s c).length = (spl c s.data.toList).length := by
  rw [← pieces_spl, List.length_map]

/-- Digits. -/
theorem dec_dig : ∀ (N n : Nat), n ≤ N → ∀ b ∈ Lib.decDigits n, 48 ≤ b.toNat ∧ b.toNat ≤ 57
  | N, n, h, b, hb => by
    rw [Lib.decDigits] at hb
    split at hb
    · rename_i h10
      rw [List.mem_singleton] at hb
      rw [hb, UInt8.toNat_ofNat']
      omega
    · rename_i h10
      obtain ⟨M, rfl⟩ : ∃ M, N = M + 1 := ⟨N - 1, by omega⟩
      rcases List.mem_append.1 hb with hb | hb
      · exact dec_dig M (n / 10) (by omega) b hb
      · rw [List.mem_singleton] at hb
        rw [hb, UInt8.toNat_ofNat']
        omega
theorem dec_acc : ∀ (N n : Nat), n ≤ N → numAcc (Lib.decDigits n) = n
  | N, n, h => by
    rw [Lib.decDigits]
    split
    · rename_i h10
      show 10 * 0 + ((UInt8.ofNat (48 + n)).toNat - 48) = n
      rw [UInt8.toNat_ofNat']
      omega
    · rename_i h10
      obtain ⟨M, rfl⟩ : ∃ M, N = M + 1 := ⟨N - 1, by omega⟩
      rw [numAcc_snoc, dec_acc M (n / 10) (by omega), UInt8.toNat_ofNat']
      omega
theorem dec_ne (n : Nat) : Lib.decDigits n ≠ [] := by
  rw [Lib.decDigits]; split <;> simp
theorem numF_dec {n : Nat} (h : n ≤ 999999999999) : numF (Lib.decDigits n) = some n := by
  unfold numF
  have h1 : (Lib.decDigits n).length ≤ 12 := by rw [Lib.decDigits_length]; exact nDigits_le 11 n (by omega)
  have h2 : (Lib.decDigits n).all isDig = true := by
    rw [List.all_eq_true]
    intro b hb
    exact decide_eq_true (dec_dig n n (Nat.le_refl _) b hb)
  rw [if_pos ⟨dec_ne n, h1, h2⟩, dec_acc n n (Nat.le_refl _)]
theorem dg_out {x : Int} {c : UInt8} (hc : c.toNat < 48 ∨ 57 < c.toNat) : c ∉ dg x := fun h => by
  have := dec_dig _ _ (Nat.le_refl _) c h
  omega
theorem numF_dg {x : Int} (h : 0 ≤ x ∧ x ≤ 999999999999) : numF (dg x) = some x.toNat := numF_dec (by omega)

/-- One tier comes back. -/
theorem cut_at {a b : List UInt8} {c : UInt8} (h : c ∉ a) : Lib.cut (a ++ c :: b) [c] = (a, b, true) := by
  unfold Lib.cut
  rw [ix_at h, if_pos (by omega)]
  have ht : ((a.length : Int)).toNat = a.length := by omega
  rw [ht, List.take_left, show a.length + [c].length = a.length + 1 from rfl, List.drop_append, List.drop_of_length_le (by omega)]
  simp
theorem tierF_txt {x : Tier} (h1 : 0 ≤ x.fr ∧ x.fr ≤ 999999999999) (h2 : 0 ≤ x.fl ∧ x.fl ≤ 999999999999) (h3 : 0 ≤ x.rt ∧ x.rt ≤ 999999999999) : tierF (tierTxt x) = some (x.fr.toNat, x.fl.toNat, x.rt.toNat) := by
  have e : tierTxt x = dg x.fr ++ 58 :: (dg x.fl ++ 43 :: dg x.rt) := by simp [tierTxt]
  unfold tierF
  rw [e, cut_at (dg_out (by decide))]
  simp only
  rw [cut_at (dg_out (by decide))]
  simp only [numF_dg h1, numF_dg h2, numF_dg h3]
/-- The tiers' text is its tiers' texts. -/
theorem spl_tiers (t : Nat → Tier) : ∀ k, spl 44 (tiersTxt t (k + 1)) = (List.range (k + 1)).map fun i => tierTxt (t i)
  | 0 => by
    have h : (44 : UInt8) ∉ tierTxt (t 0) := by
      unfold tierTxt
      simp only [List.mem_append, List.mem_singleton]
      rintro ((((h | h) | h) | h) | h)
      · exact dg_out (by decide) h
      · exact absurd h (by decide)
      · exact dg_out (by decide) h
      · exact absurd h (by decide)
      · exact dg_out (by decide) h
    show spl 44 (tiersTxt t 0 ++ comma 0 ++ tierTxt (t 0)) = _
    simp only [tiersTxt, comma, if_pos, List.nil_append]
    rw [spl_none _ _ h]; rfl
  | k + 1 => by
    have h : (44 : UInt8) ∉ tierTxt (t (k + 1)) := by
      unfold tierTxt
      simp only [List.mem_append, List.mem_singleton]
      rintro ((((h | h) | h) | h) | h)
      · exact dg_out (by decide) h
      · exact absurd h (by decide)
      · exact dg_out (by decide) h
      · exact absurd h (by decide)
      · exact dg_out (by decide) h
    have e : tiersTxt t (k + 2) = tiersTxt t (k + 1) ++ 44 :: tierTxt (t (k + 1)) := by
      show tiersTxt t (k + 1) ++ comma (k + 1) ++ tierTxt (t (k + 1)) = _
      simp [comma]
    rw [e, spl_append, spl_tiers t k, spl_none _ _ h, List.range_succ (n := k + 1), List.map_append]
    rfl
theorem no_space_tier (x : Tier) : (32 : UInt8) ∉ tierTxt x := by
  unfold tierTxt
  simp only [List.mem_append, List.mem_singleton]
  rintro ((((h | h) | h) | h) | h)
  · exact dg_out (by decide) h
  · exact absurd h (by decide)
  · exact dg_out (by decide) h
  · exact absurd h (by decide)
  · exact dg_out (by decide) h
theorem no_space (t : Nat → Tier) : ∀ k, (32 : UInt8) ∉ tiersTxt t k
  | 0 => by simp [tiersTxt]
  | k + 1 => by
    unfold tiersTxt comma
    simp only [List.mem_append]
    rintro ((h | h) | h)
    · exact no_space t k h
    · split at h
      · cases h
      · simp at h
    · exact no_space_tier _ h
/-- The words of a schedule's text. -/
theorem spl_fee (n : Nat) (t : Nat → Tier) (l m : Int) : spl 32 (feeTxt n t l m) = [tiersTxt t n] ++ (if l = 0 then [] else [[109, 105, 110], dg l]) ++ (if m = 0 then [] else [[109, 97, 120], dg m]) := by
  have hT := spl_none 32 _ (no_space t n)
  have hl := spl_none 32 (dg l) (dg_out (by decide))
  have hm := spl_none 32 (dg m) (dg_out (by decide))
  have e1 : spl 32 [109, 105, 110] = [[109, 105, 110]] := by decide
  have e2 : spl 32 [109, 97, 120] = [[109, 97, 120]] := by decide
  unfold feeTxt minTxt maxTxt
  by_cases h1 : l = 0
  · by_cases h2 : m = 0
    · rw [if_pos h1, if_pos h2, if_pos h1, if_pos h2]; simp [hT]
    · rw [if_pos h1, if_neg h2, if_pos h1, if_neg h2]
      rw [show tiersTxt t n ++ [] ++ ([32, 109, 97, 120, 32] ++ dg m) = tiersTxt t n ++ 32 :: ([109, 97, 120] ++ 32 :: dg m) by simp, spl_append, spl_append, hT, e2, hm]
      rfl
  · by_cases h2 : m = 0
    · rw [if_neg h1, if_pos h2, if_neg h1, if_pos h2]
      rw [show tiersTxt t n ++ ([32, 109, 105, 110, 32] ++ dg l) ++ [] = tiersTxt t n ++ 32 :: ([109, 105, 110] ++ 32 :: dg l) by simp, spl_append, spl_append, hT, e1, hl]
      rfl
    · rw [if_neg h1, if_neg h2, if_neg h1, if_neg h2]
      rw [show tiersTxt t n ++ ([32, 109, 105, 110, 32] ++ dg l) ++ ([32, 109, 97, 120, 32] ++ dg m) = tiersTxt t n ++ 32 :: ([109, 105, 110] ++ 32 :: (dg l ++ 32 :: ([109, 97, 120] ++ 32 :: dg m))) by simp, spl_append, spl_append, spl_append, spl_append, hT, e1, hl, e2, hm]
      rfl

/-- A schedule as numbers. -/
structure GoodN (ts : List (Nat × Nat × Nat)) (l m : Nat) : Prop where
  good : goodB ts.length (tierAt ts) l m = true
theorem tierAt_get (ts : List (Nat × Nat × Nat)) (i : Nat) (h : i < ts.length) : ((tierAt ts i).fr.toNat, (tierAt ts i).fl.toNat, (tierAt ts i).rt.toNat) = ts[i] := by
  unfold tierAt
  rw [List.getD_eq_getElem?_getD, List.getElem?_eq_getElem h]
  simp
theorem tiersTo_map {p : Nat → List UInt8} {ts : List (Nat × Nat × Nat)} (h : ∀ i (hi : i < ts.length), tierF (p i) = some ts[i]) : ∀ k, k ≤ ts.length → tiersTo p k = some (ts.take k)
  | 0, _ => rfl
  | k + 1, hk => by
    unfold tiersTo
    rw [tiersTo_map h k (by omega)]
    simp only [h k (by omega)]
    rw [List.take_succ_eq_append_getElem (by omega)]
/-- What a good schedule's text is read as. -/
theorem read_back {s : ByteArray} {ts : List (Nat × Nat × Nat)} {l m : Nat} (hG : goodB ts.length (tierAt ts) l m = true) (hs : feeTxt ts.length (tierAt ts) l m = s.data.toList) : readF s = some (ts, l, m) := by
  have GP := goodP hG
  have hw := spl_fee ts.length (tierAt ts) l m
  rw [hs] at hw
  have hw0 : nth (pieces s 32) 0 = tiersTxt (tierAt ts) ts.length := by rw [nth_spl, hw]; rfl
  have hw0' : ((pieces s 32).getD 0 ⟨#[]⟩).data.toList = tiersTxt (tierAt ts) ts.length := hw0
  obtain ⟨n, hn⟩ : ∃ n, ts.length = n + 1 := ⟨ts.length - 1, by have := GP.n1; omega⟩
  have hp : spl 44 ((pieces s 32).getD 0 ⟨#[]⟩).data.toList = (List.range (n + 1)).map fun i => tierTxt (tierAt ts i) := by
    rw [hw0', hn]; exact spl_tiers _ n
  have hlen : (pieces ((pieces s 32).getD 0 ⟨#[]⟩) 44).length = ts.length := by rw [len_spl, hp, hn]; simp
  have ht : tiersTo (nth (pieces ((pieces s 32).getD 0 ⟨#[]⟩) 44)) (pieces ((pieces s 32).getD 0 ⟨#[]⟩) 44).length = some ts := by
    rw [hlen, tiersTo_map (ts := ts) (fun i hi => ?_) ts.length (Nat.le_refl _), List.take_length]
    rw [nth_spl, hp]
    have e : ((List.range (n + 1)).map fun i => tierTxt (tierAt ts i)).getD i [] = tierTxt (tierAt ts i) := by
      rw [List.getD_eq_getElem?_getD, List.getElem?_map, List.getElem?_range (by omega)]; rfl
    rw [e, tierF_txt (by have := GP.fr i hi; omega) (by have := GP.fl i hi; omega) (by have := GP.rt i hi; omega), tierAt_get ts i hi]
  have hL : numF (dg (l : Int)) = some l := by rw [numF_dg (by have := GP.l0; omega)]; simp
  have hM : numF (dg (m : Int)) = some m := by rw [numF_dg (by have := GP.m0; omega)]; simp
  have hW : ∀ i, nth (pieces s 32) i = ([tiersTxt (tierAt ts) ts.length] ++ (if (l : Int) = 0 then [] else [[109, 105, 110], dg l]) ++ (if (m : Int) = 0 then [] else [[109, 97, 120], dg m])).getD i [] := fun i => by rw [nth_spl, hw]
  have hWL : (pieces s 32).length = ([tiersTxt (tierAt ts) ts.length] ++ (if (l : Int) = 0 then [] else [[109, 105, 110], dg l]) ++ (if (m : Int) = 0 then [] else [[109, 97, 120], dg m])).length := by rw [len_spl, hw]
  unfold readF
  rw [ht]
  have k1 : ¬ (([109, 97, 120] : List UInt8) = [109, 105, 110]) := by decide
  by_cases h1 : (l : Int) = 0
  · by_cases h2 : (m : Int) = 0
    · rw [if_pos h1, if_pos h2] at hWL
      simp only [hWL]
      have e1 : l = 0 := by omega
      have e2 : m = 0 := by omega
      subst e1; subst e2
      simp [pairsTo]
    · rw [if_pos h1, if_neg h2] at hWL
      simp only [if_pos h1, if_neg h2] at hW
      simp only [hWL]
      have e1 : l = 0 := by omega
      subst e1
      simp [pairsTo, pairStep, hW, hM]
  · by_cases h2 : (m : Int) = 0
    · rw [if_neg h1, if_pos h2] at hWL
      simp only [if_neg h1, if_pos h2] at hW
      simp only [hWL]
      have e2 : m = 0 := by omega
      subst e2
      simp [pairsTo, pairStep, hW, hL]
    · rw [if_neg h1, if_neg h2] at hWL
      simp only [if_neg h1, if_neg h2] at hW
      simp only [hWL]
      simp [pairsTo, pairStep, hW, hL, hM]
/-- Parse takes a text just if it is the text of a good schedule; then it is that. -/
theorem parseF_iff {s : ByteArray} {ts : List (Nat × Nat × Nat)} {l m : Nat} : parseF s = some (ts, l, m) ↔ goodB ts.length (tierAt ts) l m = true ∧ feeTxt ts.length (tierAt ts) l m = s.data.toList := by
  constructor
  · intro h
    unfold parseF at h
    split at h
    · cases h
    · split at h
      · rename_i hh
        cases h; exact hh
      · cases h
  · intro ⟨h1, h2⟩
    unfold parseF
    rw [read_back h1 h2]
    exact if_pos ⟨h1, h2⟩
end Go.Proofs.YtikkocdbaekjmaaGreatDoor
namespace Go.Proofs.YtikkocdbaekjmaaGreatDoor
open Go.RowKit
/-- A digit behind the last number. -/
def bump (L : List Nat) (d : Nat) : List Nat := L.set (L.length - 1) (min (L.getD (L.length - 1) 0 * 10 + d) 100000000000)
def numStep (st : List Nat × List UInt8 × Bool) (c : UInt8) : List Nat × List UInt8 × Bool :=
  if c.toNat < 48 ∨ 57 < c.toNat then (st.1, st.2.1 ++ [c], false) else (bump (if st.2.2 then st.1 else st.1 ++ [0]) (c.toNat - 48), st.2.1, true)
/-- The numbers of a text, and what stands between them. -/
def numsTo (l : List UInt8) : List Nat × List UInt8 × Bool := l.foldl numStep ([], [], false)
theorem numsTo_snoc (l : List UInt8) (c : UInt8) : numsTo (l ++ [c]) = numStep (numsTo l) c := by unfold numsTo; rw [List.foldl_append]; rfl
/-- What holds of the numbers all along. -/
structure NumsP (st : List Nat × List UInt8 × Bool) (i : Nat) : Prop where
  len : st.1.length ≤ i
  rlen : st.2.1.length ≤ i
  le : ∀ x ∈ st.1, x ≤ 100000000000
  open' : st.2.2 = true → st.1 ≠ []
theorem bump_len (L : List Nat) (d : Nat) : (bump L d).length = L.length := by unfold bump; simp
theorem bump_le {L : List Nat} {d : Nat} (h : ∀ x ∈ L, x ≤ 100000000000) : ∀ x ∈ bump L d, x ≤ 100000000000 := fun x hx => by
  unfold bump at hx
  rcases List.mem_or_eq_of_mem_set hx with h1 | h1
  · exact h x h1
  · omega
theorem NumsP.step {st : List Nat × List UInt8 × Bool} {i : Nat} (h : NumsP st i) (c : UInt8) : NumsP (numStep st c) (i + 1) := by
  obtain ⟨h1, h2, h3, h4⟩ := h
  unfold numStep
  split
  · exact ⟨by show st.1.length ≤ i + 1; omega, by show (st.2.1 ++ [c]).length ≤ i + 1; simp; omega, h3, fun e => by cases e⟩
  · cases e : st.2.2 with
    | true =>
      refine ⟨by show (bump st.1 _).length ≤ i + 1; rw [bump_len]; omega, by show st.2.1.length ≤ i + 1; omega, bump_le h3, fun _ => ?_⟩
      show bump st.1 _ ≠ []
      intro e'
      have := congrArg List.length e'
      rw [bump_len] at this
      exact h4 e (List.length_eq_zero_iff.1 this)
    | false =>
      refine ⟨by show (bump (st.1 ++ [0]) _).length ≤ i + 1; rw [bump_len]; simp; omega, by show st.2.1.length ≤ i + 1; omega, bump_le (fun x hx => ?_), fun _ => ?_⟩
      · rcases List.mem_append.1 hx with hx | hx
        · exact h3 x hx
        · simp at hx; omega
      · show bump (st.1 ++ [0]) _ ≠ []
        intro e'
        have := congrArg List.length e'
        rw [bump_len] at this
        simp at this
theorem numsP : ∀ l : List UInt8, NumsP (numsTo l) l.length := fun l => by
  have : ∀ (l : List UInt8) st i, NumsP st i → NumsP (l.foldl numStep st) (i + l.length) := fun l => by
    induction l with
    | nil => intro st i h; exact h
    | cons c l ih => intro st i h; have := ih _ _ (h.step c); rw [List.length_cons, show i + (l.length + 1) = i + 1 + l.length by omega]; exact this
  have h := this l ([], [], false) 0 ⟨Nat.le_refl _, Nat.le_refl _, fun x hx => by simp at hx, fun e => by cases e⟩
  rw [Nat.zero_add] at h; exact h
/-- v holds these numbers in a row of its own from B on. -/
def OwnI (w : World) (B : Nat) (v : Value) (L : List Nat) : Prop := w.ownsRow B 2 1 v L.length (L.map fun (n : Nat) => Value.int .i64 (n : Int))
theorem info2 : (Tryz.prog.info? 2).map (fun i => (i.zero, i.size, i.bytes)) = some (some (.int .i64 0), 1, 8) := by kernel_rfl
section
variable {w : World} {ops : Array Oper} {rest : List Oper} {o : Oper} {a : Act} {Q : Exit → Act → World → Prop}
theorem append_num (hgd : o.guard = none) (s x : Operand) (ho : o.op = .call { callee := .builtin .append, args := #[s, x], argTypes := #[43, 43] })
    (B : Nat) (v : Value) (L : List Nat) (hs : a.eval s = v) (hown : OwnI w B v L) (g : Nat) (k : Nat) (hx : a.eval x = .slice (some ⟨g, 0, none⟩) 1 1) (hg : w.heap[g]? = some (.cells #[.int .i64 (k : Int)] 2 (0, 0)))
    (hlen : L.length ≤ 1000000000) (hB : B ≤ w.heap.size)
    (h : ∀ v' w', OwnI w' B v' (L ++ [k]) → w.grownBy w' v.ownBlock → wpList Tryz.prog ops Q rest (a.put o.dst v') w') : wpList Tryz.prog ops Q (o :: rest) a w := by
  obtain ⟨i, hi, hzz⟩ := Option.map_eq_some_iff.1 info2
  simp only [Prod.mk.injEq] at hzz
  obtain ⟨hz, hsz, hby⟩ := hzz
  have hsrc : w.ownsRow g 2 1 (.slice (some ⟨g, 0, none⟩) 1 1) 1 [.int .i64 (k : Int)] := ⟨rfl, .inr ⟨g, 1, #[.int .i64 (k : Int)], rfl, Nat.le_refl _, hg, Nat.le_refl _, by unfold maxLen; decide, rfl, rfl⟩⟩
  refine wpList_append_rows (P := Tryz.prog) hgd s x 43 ho B 2 i _ 1 8 Tryz.underlying43 hi hz hsz hby rfl (by decide) v L.length _ hs hown g _ 1 _ hx hsrc (by simp [Value.oneCell']) (by unfold maxLen; omega) (by omega) hB fun v' w' h1 h2 _ => h v' w' ?_ h2
  unfold OwnI
  rw [List.map_append, List.length_append]
  exact h1
theorem append_byte2 (hgd : o.guard = none) (s x : Operand) (ho : o.op = .call { callee := .builtin .append, args := #[s, x], argTypes := #[75, 75] })
    (B : Nat) (v : Value) (xs : List UInt8) (hs : a.eval s = v) (hown : Own w B v xs) (g : Nat) (c : UInt8) (hx : a.eval x = .slice (some ⟨g, 0, none⟩) 1 1) (hg : w.heap[g]? = some (.cells #[.int .u8 c.toNat] 5 (0, 0)))
    (hlen : xs.length ≤ 1000000000) (hB : B ≤ w.heap.size)
    (h : ∀ v' w', Own w' B v' (xs ++ [c]) → w.grownBy w' v.ownBlock → wpList Tryz.prog ops Q rest (a.put o.dst v') w') : wpList Tryz.prog ops Q (o :: rest) a w := by
  obtain ⟨i, hi, hzz⟩ := Option.map_eq_some_iff.1 info5
  simp only [Prod.mk.injEq] at hzz
  obtain ⟨hz, hsz, hby⟩ := hzz
  have hsrc : w.ownsRow g 5 1 (.slice (some ⟨g, 0, none⟩) 1 1) 1 [.int .u8 c.toNat] := ⟨rfl, .inr ⟨g, 1, #[.int .u8 c.toNat], rfl, Nat.le_refl _, hg, Nat.le_refl _, by unfold maxLen; decide, rfl, rfl⟩⟩
  refine wpList_append_rows (P := Tryz.prog) hgd s x 75 ho B 5 i _ 1 1 Tryz.underlying75 hi hz hsz hby rfl (by decide) v xs.length _ hs hown g _ 1 _ hx hsrc (by simp [Value.oneCell']) (by unfold maxLen; omega) (by omega) hB fun v' w' h1 h2 _ => h v' w' ?_ h2
  unfold Own
  rw [byteCells_append, List.length_append]
  exact h1
end
theorem OwnI.block {w : World} {B : Nat} {v : Value} {L : List Nat} (h : OwnI w B v L) : ∀ k, v.ownBlock = some k → B ≤ k ∧ k < w.heap.size ∧ ∃ cur, w.heap[k]? = some (.cells cur 2 (0, 0)) := by
  intro k hk
  rcases h.2 with ⟨rfl, _⟩ | ⟨g, cap, cur, rfl, hB, hg, _⟩
  · cases hk
  · cases hk
    exact ⟨hB, lt_of_block hg, cur, hg⟩
theorem OwnI.keep {w w' : World} {B : Nat} {v : Value} {L : List Nat} (h : OwnI w B v L) (hb : ∀ k, v.ownBlock = some k → w'.heap[k]? = w.heap[k]?) : OwnI w' B v L := by
  rcases h with ⟨h1, h2 | ⟨g, cap, cur, rfl, hB, hg, hr⟩⟩
  · exact ⟨h1, .inl h2⟩
  · exact ⟨h1, .inr ⟨g, cap, cur, rfl, hB, (hb g rfl).trans hg, hr⟩⟩
theorem OwnI.step {w w' : World} {B : Nat} {v : Value} {L : List Nat} (h : OwnI w B v L) (hb : Below w.heap.size w w') : OwnI w' B v L := h.keep fun k hk => hb.block k (h.block k hk).2.1
/-- The two rows lie apart. -/
theorem rows_apart {w : World} {B B' : Nat} {v u : Value} {L : List Nat} {xs : List UInt8} (h : OwnI w B v L) (k : Own w B' u xs) : ∀ j, v.ownBlock = some j → some j ≠ u.ownBlock := fun j hj e => by
  obtain ⟨_, _, c1, h1⟩ := h.block j hj
  obtain ⟨_, _, c2, h2⟩ := k.block j e.symm
  rw [h1] at h2
  injection h2 with h2; injection h2 with _ h2 _; cases h2
theorem OwnI.last {w : World} {B g cap j n : Nat} {L : List Nat} (h : OwnI w B (.slice (some ⟨g, 0, none⟩) n cap) L) (hj : L.length = j + 1) :
    w.cell? ⟨g, j, none⟩ = some (.int .i64 ((L.getD j 0 : Nat) : Int)) ∧ w.frozen? ⟨g, j, none⟩ = false ∧ j + 1 ≤ cap := by
  have hn : n = L.length := by
    obtain ⟨ao, c', e, _⟩ := ownsRow_shape h
    cases e; rfl
  subst hn
  refine ⟨?_, World.ownsRow.frozenAt h j, ?_⟩
  · rw [World.ownsRow.cellAt h j (by omega), List.getElem?_map, List.getElem?_eq_getElem (show j < L.length by omega), List.getD_eq_getElem?_getD, List.getElem?_eq_getElem (show j < L.length by omega)]
    rfl
  · obtain ⟨ao, c', e, hc⟩ := ownsRow_shape h
    cases e; omega
theorem OwnI.set {w : World} {B g cap n : Nat} {L : List Nat} (h : OwnI w B (.slice (some ⟨g, 0, none⟩) n cap) L) (j v : Nat) : OwnI (w.setCell ⟨g, j, none⟩ (.int .i64 (v : Int))) B (.slice (some ⟨g, 0, none⟩) n cap) (L.set j v) := by
  have hn : n = L.length := by
    obtain ⟨ao, c', e, _⟩ := ownsRow_shape h
    cases e; rfl
  subst hn
  have := World.ownsRow.stored h j (.int .i64 (v : Int))
  unfold OwnI
  rw [List.length_set, List.map_set]
  exact this.1
set_option maxRecDepth 100000 in
set_option maxHeartbeats 4000000 in
theorem numbers_any (s : ByteArray) (w : World) (hs : s.size ≤ 100000000) :
    Calls Tryz.prog 20 #[.string s] w fun e w' => ∃ v, e = .returned (.tuple #[v, .string ⟨(numsTo s.data.toList).2.1.toArray⟩]) ∧ OwnI w' w.heap.size v (numsTo s.data.toList).1 ∧ Below w.heap.size w w' := by
  have hlen : s.data.toList.length = s.size := Array.length_toList
  have HL := Lib.hid hlen
  have HB0 := Lib.hid (((Below.refl w.heap.size w).alloc (Nat.le_refl _) (.cells #[] 2)).alloc (by simp) (.cells #[] 5))
  have HI0 := Lib.hid (show OwnI ((w.alloc (.cells #[] 2)).alloc (.cells #[] 5)) w.heap.size (.slice (some ⟨w.heap.size, 0, none⟩) 0 0) [] from ⟨rfl, .inr ⟨_, 0, #[], rfl, Nat.le_refl _, alloc_old (heap_alloc_new w _) _, Nat.le_refl _, Nat.zero_le _, rfl, rfl⟩⟩)
  have HY0 := Lib.hid (show Own ((w.alloc (.cells #[] 2)).alloc (.cells #[] 5)) w.heap.size (.slice (some ⟨w.heap.size + 1, 0, none⟩) 0 0) [] from ⟨rfl, .inr ⟨_, 0, #[], rfl, Nat.le_succ _, alloc_at (by simp) _ _, Nat.le_refl _, Nat.zero_le _, rfl, rfl⟩⟩)
  clear hlen
  go_enter Tryz.func20, Tryz.ntmps20
  go_wp2_with fail
  go_loopw [7, 4, 5, 6, 8] (fun vi v4 v5 vo v8 wr => ∃ (i : Nat) (o : Bool), vi = .int .i64 i ∧ vo = .bool o ∧ i ≤ s.size ∧ Hid (NumsP (numsTo (s.data.toList.take i)) i) ∧ Hid (o = (numsTo (s.data.toList.take i)).2.2) ∧ Hid (OwnI wr w.heap.size v4 (numsTo (s.data.toList.take i)).1) ∧ Hid (Own wr w.heap.size v5 (numsTo (s.data.toList.take i)).2.1) ∧ Hid (Below w.heap.size w wr)) (fun vi _ _ _ _ _ => s.size - (intOf vi).toNat)
  case atStart => exact ⟨0, false, rfl, rfl, Nat.zero_le _, Lib.hid (by have := numsP []; exact this), Lib.hid rfl, HI0, HY0, HB0⟩
  case round =>
    obtain ⟨i, o, rfl, rfl, hi, hP, ho, hI, hY, hB⟩ := hrel
    rcases Nat.lt_or_ge i s.size with h | h
    · have hiI : (i : Int) < s.size := by omega
      have HT := Lib.hid (show numsTo (s.data.toList.take (i + 1)) = numStep (numsTo (s.data.toList.take i)) s[i] by rw [take_snoc s i h, numsTo_snoc])
      have HP2 := Lib.hid (show NumsP (numsTo (s.data.toList.take (i + 1))) (i + 1) by rw [HT.out]; exact hP.out.step _)
      generalize numsTo (s.data.toList.take i) = st at *
      obtain ⟨L, r, ob⟩ := st
      obtain rfl : o = ob := ho.out
      by_cases hd : s[i].toNat < 48 ∨ 57 < s[i].toNat
      · have HS := Lib.hid (show numsTo (s.data.toList.take (i + 1)) = (L, r ++ [s[i]], false) by rw [HT.out]; unfold numStep; rw [if_pos hd])
        have hq : (decide (((s[i].toNat : Nat) : Int) < 48) = true) ∨ (decide (((s[i].toNat : Nat) : Int) < 48) = false ∧ decide ((57 : Int) < ((s[i].toNat : Nat) : Int)) = true) := by
          rcases hd with h | h
          · exact .inl (decide_eq_true (by omega))
          · by_cases h' : s[i].toNat < 48
            · exact .inl (decide_eq_true (by omega))
            · exact .inr ⟨decide_eq_false (by omega), decide_eq_true (by omega)⟩
        have HY1 := Lib.hid (hY.out.below (Below.new wr (.cells #[.int .u8 s[i].toNat] 5)))
        have HI1 := Lib.hid (hI.out.step (Below.new wr (.cells #[.int .u8 s[i].toNat] 5)))
        have HB1 := Lib.hid (hB.out.alloc hB.out.size (.cells #[.int .u8 s[i].toNat] 5))
        have hrl : r.length ≤ 1000000000 := by have : r.length ≤ i := hP.out.rlen; omega
        clear hd hP ho
        rcases hq with q1 | ⟨q1, q2⟩
        all_goals
          go_wp2_with (at_builtin; refine append_byte2 rfl _ _ rfl w.heap.size u5 r rfl HY1.out wr.heap.size s[i] rfl (heap_alloc_new wr _) hrl HB1.out.size ?_; intro v6 w6 ho6 hg6; have HY6 := Lib.hid ho6; have HI6 := Lib.hid (show OwnI w6 w.heap.size u4 L from HI1.out.keep fun k hk => hg6.block k (HI1.out.block k hk).2.1 (rows_apart HI1.out HY1.out k hk)); have HB6 := Lib.hid (HB1.out.grown hg6 HB1.out.size fun k hk => (HY1.out.block k hk).1); clear ho6 hg6)
          go_roundw
          case rel => exact ⟨i + 1, false, by go_num, rfl, h, HP2, Lib.hid (by rw [HS.out]), by rw [HS.out]; exact HI6, by rw [HS.out]; exact HY6, HB6⟩
          case measure => simp [intOf]; omega
      · have hd1 : 48 ≤ s[i].toNat := by omega
        have hd2 : s[i].toNat ≤ 57 := by omega
        have q1 : decide (((s[i].toNat : Nat) : Int) < 48) = false := decide_eq_false (by omega)
        have q2 : decide ((57 : Int) < ((s[i].toNat : Nat) : Int)) = false := decide_eq_false (by omega)
        have hll : L.length ≤ 1000000000 := by have : L.length ≤ i := hP.out.len; omega
        have HLE := Lib.hid (show ∀ y ∈ L, y ≤ 100000000000 from hP.out.le)
        cases o with
        | true =>
          have HS := Lib.hid (show numsTo (s.data.toList.take (i + 1)) = (bump L (s[i].toNat - 48), r, true) by rw [HT.out]; unfold numStep; rw [if_neg hd]; rfl)
          have hne : L ≠ [] := hP.out.open' rfl
          obtain ⟨j, hj⟩ : ∃ j, L.length = j + 1 := ⟨L.length - 1, by have := List.length_pos_iff.2 hne; omega⟩
          obtain ⟨g, cap, rfl, hge, hgl⟩ := World.ownsRow.form hI.out (by show 0 < L.length; omega)
          have hI1 := hI.out
          simp only at hI1
          obtain ⟨hc, hf, hcap⟩ := OwnI.last hI1 hj
          have HI1 := Lib.hid hI1
          have hxl : L.getD j 0 ≤ 100000000000 := HLE.out _ (by rw [List.getD_eq_getElem?_getD, List.getElem?_eq_getElem (by omega), Option.getD_some]; exact List.getElem_mem _)
          have HBP := Lib.hid (show bump L (s[i].toNat - 48) = L.set j (min (L.getD j 0 * 10 + (s[i].toNat - 48)) 100000000000) by unfold bump; rw [hj, Nat.add_sub_cancel])
          simp only [hj]
          generalize L.getD j 0 = x at *
          have HY1 := Lib.hid (show Own wr w.heap.size u5 r from hY.out)
          have HV := Lib.hid (show (min ((x : Int) * 10 + (s[i].toNat : Nat) - 48) 100000000000) = ((min (x * 10 + (s[i].toNat - 48)) 100000000000 : Nat) : Int) by omega)
          have HI2 := Lib.hid (show OwnI ((wr.setCell ⟨g, j, none⟩ (.int .i64 (min ((x : Int) * 10 + (s[i].toNat : Nat) - 48) 100000000000))).drew) w.heap.size (.slice (some ⟨g, 0, none⟩) (j + 1) cap) (bump L (s[i].toNat - 48)) by
            rw [HBP.out, HV.out]
            have h1 := OwnI.set HI1.out j (min (x * 10 + (s[i].toNat - 48)) 100000000000)
            rw [hj] at h1
            exact h1.keep fun _ _ => rfl)
          have HY2 := Lib.hid (show Own ((wr.setCell ⟨g, j, none⟩ (.int .i64 (min ((x : Int) * 10 + (s[i].toNat : Nat) - 48) 100000000000))).drew) w.heap.size u5 r from HY1.out.keep fun k hk => Below.heap_setCell wr _ _ k fun e => rows_apart HI1.out HY1.out g rfl (by rw [← (show k = g from e)]; exact hk.symm))
          have HB2 := Lib.hid (show Below w.heap.size w ((wr.setCell ⟨g, j, none⟩ (.int .i64 (min ((x : Int) * 10 + (s[i].toNat : Nat) - 48) 100000000000))).drew) from (hB.out.setCell hge _).drew)
          clear hd hP ho hI hI1
          go_upto_region 14 with fail
          refine wp_region_R (S := fun W => W = wr.drew) (late := [15]) (by kernel_rfl) ?_
          refine wpAnyR_takeY (i := 0) (v := .slice (some ⟨g, 0, none⟩) (j + 1) cap) rfl (by kernel_rfl) (by kernel_rfl) (by kernel_rfl) (fun _ _ _ h => h) (Or.inl ⟨by kernel_rfl, ?_⟩) ?_
          · intro W _; go_simp <;> first | omega | (intro; omega) | (simp only [IntKind.wrap_i64]; omega) | (rw [min_def]; split <;> omega)
          try simp only [Act.put, List.getElem_toArray, List.getElem_cons_succ, List.getElem_cons_zero, List.setIfInBounds_toArray, List.set_cons_succ, List.set_cons_zero]
          refine wpAnyR_takeY (i := 1) (v := .int .i64 j) rfl (by kernel_rfl) (by kernel_rfl) (by kernel_rfl) (fun _ _ _ h => h) (Or.inl ⟨by kernel_rfl, ?_⟩) ?_
          · intro W _; go_simp <;> first | omega | (intro; omega) | (simp only [IntKind.wrap_i64]; omega) | (rw [min_def]; split <;> omega)
          try simp only [Act.put, List.getElem_toArray, List.getElem_cons_succ, List.getElem_cons_zero, List.setIfInBounds_toArray, List.set_cons_succ, List.set_cons_zero]
          refine wpAnyR_takeY (i := 2) (v := .slice (some ⟨g, 0, none⟩) (j + 1) cap) rfl (by kernel_rfl) (by kernel_rfl) (by kernel_rfl) (fun _ _ _ h => h) (Or.inl ⟨by kernel_rfl, ?_⟩) ?_
          · intro W _; go_simp <;> first | omega | (intro; omega) | (simp only [IntKind.wrap_i64]; omega) | (rw [min_def]; split <;> omega)
          try simp only [Act.put, List.getElem_toArray, List.getElem_cons_succ, List.getElem_cons_zero, List.setIfInBounds_toArray, List.set_cons_succ, List.set_cons_zero]
          refine wpAnyR_takeY (i := 3) (v := .int .i64 j) rfl (by kernel_rfl) (by kernel_rfl) (by kernel_rfl) (fun _ _ _ h => h) (Or.inl ⟨by kernel_rfl, ?_⟩) ?_
          · intro W _; go_simp <;> first | omega | (intro; omega) | (simp only [IntKind.wrap_i64]; omega) | (rw [min_def]; split <;> omega)
          try simp only [Act.put, List.getElem_toArray, List.getElem_cons_succ, List.getElem_cons_zero, List.setIfInBounds_toArray, List.set_cons_succ, List.set_cons_zero]
          refine wpAnyR_takeY (i := 4) (v := .pointer (some ⟨g, j, none⟩)) rfl (by kernel_rfl) (by kernel_rfl) (by kernel_rfl) (fun _ _ _ h => h) (Or.inl ⟨by kernel_rfl, ?_⟩) ?_
          · intro W _; go_simp <;> first | omega | (intro; omega) | (simp only [IntKind.wrap_i64]; omega) | (rw [min_def]; split <;> omega)
          try simp only [Act.put, List.getElem_toArray, List.getElem_cons_succ, List.getElem_cons_zero, List.setIfInBounds_toArray, List.set_cons_succ, List.set_cons_zero]
          refine wpAnyR_take (i := 5) (v := .int .i64 x) rfl (by kernel_rfl) (by kernel_rfl) (by kernel_rfl) (by kernel_rfl) (by kernel_rfl) (fun _ _ _ h => h) (Or.inl ⟨by kernel_rfl, ?_⟩) rfl ?_
          · intro W hSw; subst hSw; go_simp
          try simp only [Act.put, List.getElem_toArray, List.getElem_cons_succ, List.getElem_cons_zero, List.setIfInBounds_toArray, List.set_cons_succ, List.set_cons_zero]
          refine wpAnyR_takeY (i := 6) (v := .int .i64 ((x : Int) * 10)) rfl (by kernel_rfl) (by kernel_rfl) (by kernel_rfl) (fun _ _ _ h => h) (Or.inl ⟨by kernel_rfl, ?_⟩) ?_
          · intro W _; go_simp <;> first | omega | (intro; omega) | (simp only [IntKind.wrap_i64]; omega) | (rw [min_def]; split <;> omega)
          try simp only [Act.put, List.getElem_toArray, List.getElem_cons_succ, List.getElem_cons_zero, List.setIfInBounds_toArray, List.set_cons_succ, List.set_cons_zero]
          refine wpAnyR_takeY (i := 7) (v := .string s) rfl (by kernel_rfl) (by kernel_rfl) (by kernel_rfl) (fun _ _ _ h => h) (Or.inl ⟨by kernel_rfl, ?_⟩) ?_
          · intro W _; go_simp <;> first | omega | (intro; omega) | (simp only [IntKind.wrap_i64]; omega) | (rw [min_def]; split <;> omega)
          try simp only [Act.put, List.getElem_toArray, List.getElem_cons_succ, List.getElem_cons_zero, List.setIfInBounds_toArray, List.set_cons_succ, List.set_cons_zero]
          refine wpAnyR_takeY (i := 8) (v := .int .i64 i) rfl (by kernel_rfl) (by kernel_rfl) (by kernel_rfl) (fun _ _ _ h => h) (Or.inl ⟨by kernel_rfl, ?_⟩) ?_
          · intro W _; go_simp <;> first | omega | (intro; omega) | (simp only [IntKind.wrap_i64]; omega) | (rw [min_def]; split <;> omega)
          try simp only [Act.put, List.getElem_toArray, List.getElem_cons_succ, List.getElem_cons_zero, List.setIfInBounds_toArray, List.set_cons_succ, List.set_cons_zero]
          refine wpAnyR_takeY (i := 9) (v := .int .u8 (s[i].toNat : Nat)) rfl (by kernel_rfl) (by kernel_rfl) (by kernel_rfl) (fun _ _ _ h => h) (Or.inl ⟨by kernel_rfl, ?_⟩) ?_
          · intro W _; go_simp <;> first | omega | (intro; omega) | (simp only [IntKind.wrap_i64]; omega) | (rw [min_def]; split <;> omega)
          try simp only [Act.put, List.getElem_toArray, List.getElem_cons_succ, List.getElem_cons_zero, List.setIfInBounds_toArray, List.set_cons_succ, List.set_cons_zero]
          refine wpAnyR_takeY (i := 10) (v := .int .i64 (s[i].toNat : Nat)) rfl (by kernel_rfl) (by kernel_rfl) (by kernel_rfl) (fun _ _ _ h => h) (Or.inl ⟨by kernel_rfl, ?_⟩) ?_
          · intro W _; go_simp <;> first | omega | (intro; omega) | (simp only [IntKind.wrap_i64]; omega) | (rw [min_def]; split <;> omega)
          try simp only [Act.put, List.getElem_toArray, List.getElem_cons_succ, List.getElem_cons_zero, List.setIfInBounds_toArray, List.set_cons_succ, List.set_cons_zero]
          refine wpAnyR_takeY (i := 11) (v := .int .i64 ((x : Int) * 10 + (s[i].toNat : Nat))) rfl (by kernel_rfl) (by kernel_rfl) (by kernel_rfl) (fun _ _ _ h => h) (Or.inl ⟨by kernel_rfl, ?_⟩) ?_
          · intro W _; go_simp <;> first | omega | (intro; omega) | (simp only [IntKind.wrap_i64]; omega) | (rw [min_def]; split <;> omega)
          try simp only [Act.put, List.getElem_toArray, List.getElem_cons_succ, List.getElem_cons_zero, List.setIfInBounds_toArray, List.set_cons_succ, List.set_cons_zero]
          refine wpAnyR_takeY (i := 12) (v := .int .i64 ((x : Int) * 10 + (s[i].toNat : Nat) - 48)) rfl (by kernel_rfl) (by kernel_rfl) (by kernel_rfl) (fun _ _ _ h => h) (Or.inl ⟨by kernel_rfl, ?_⟩) ?_
          · intro W _; go_simp <;> first | omega | (intro; omega) | (simp only [IntKind.wrap_i64]; omega) | (rw [min_def]; split <;> omega)
          try simp only [Act.put, List.getElem_toArray, List.getElem_cons_succ, List.getElem_cons_zero, List.setIfInBounds_toArray, List.set_cons_succ, List.set_cons_zero]
          refine wpAnyR_takeY (i := 13) (v := .int .i64 (min ((x : Int) * 10 + (s[i].toNat : Nat) - 48) 100000000000)) rfl (by kernel_rfl) (by kernel_rfl) (by kernel_rfl) (fun _ _ _ h => h) (Or.inl ⟨by kernel_rfl, ?_⟩) ?_
          · intro W _; go_simp <;> first | omega | (intro; omega) | (simp only [IntKind.wrap_i64]; omega) | (rw [min_def]; split <;> omega)
          try simp only [Act.put, List.getElem_toArray, List.getElem_cons_succ, List.getElem_cons_zero, List.setIfInBounds_toArray, List.set_cons_succ, List.set_cons_zero]
          refine wpAnyR_takeY (i := 14) (v := .pointer (some ⟨g, j, none⟩)) rfl (by kernel_rfl) (by kernel_rfl) (by kernel_rfl) (fun _ _ _ h => h) (Or.inl ⟨by kernel_rfl, ?_⟩) ?_
          · intro W _; go_simp <;> first | omega | (intro; omega) | (simp only [IntKind.wrap_i64]; omega) | (rw [min_def]; split <;> omega)
          try simp only [Act.put, List.getElem_toArray, List.getElem_cons_succ, List.getElem_cons_zero, List.setIfInBounds_toArray, List.set_cons_succ, List.set_cons_zero]
          refine wpAnyR_one (i := 15) (by kernel_rfl) rfl (fun K hK => ?_)
          go_simp
          refine hK.out _ _ (.inl rfl) ?_
          clear hK K
          try simp only [Act.put, List.getElem_toArray, List.getElem_cons_succ, List.getElem_cons_zero, List.setIfInBounds_toArray, List.set_cons_succ, List.set_cons_zero]
          refine wpAnyR_done (by kernel_rfl) ?_ _
          go_wp2_with fail
          go_roundw
          case rel => exact ⟨i + 1, true, by go_num, rfl, h, HP2, Lib.hid (by rw [HS.out]), by rw [HS.out]; exact HI2, by rw [HS.out]; exact HY2, HB2⟩
          case measure => simp [intOf]; omega
        | false =>
          have HS := Lib.hid (show numsTo (s.data.toList.take (i + 1)) = (bump (L ++ [0]) (s[i].toNat - 48), r, true) by rw [HT.out]; unfold numStep; rw [if_neg hd]; rfl)
          have HY1 := Lib.hid (hY.out.below (Below.new wr (.cells #[.int .i64 ((0 : Nat) : Int)] 2)))
          have HI1 := Lib.hid (hI.out.step (Below.new wr (.cells #[.int .i64 ((0 : Nat) : Int)] 2)))
          have HB1 := Lib.hid (hB.out.alloc hB.out.size (.cells #[.int .i64 ((0 : Nat) : Int)] 2))
          clear hd hP ho hI hY hB
          go_upto_region 14 with (at_builtin; refine append_num rfl _ _ rfl w.heap.size u4 L rfl HI1.out wr.heap.size 0 rfl (heap_alloc_new wr _) hll HB1.out.size ?_; intro v6 w6 ho6 hg6; have HI6 := Lib.hid ho6; have HY6 := Lib.hid (show Own w6 w.heap.size u5 r from HY1.out.keep fun k hk => hg6.block k (HY1.out.block k hk).2.1 fun e => rows_apart HI1.out HY1.out k e.symm hk.symm); have HB6 := Lib.hid (HB1.out.grown hg6 HB1.out.size fun k hk => (HI1.out.block k hk).1); clear ho6 hg6; obtain ⟨g, cap, e6, hge, hgl⟩ := World.ownsRow.form HI6.out (by rw [List.length_append]; exact Nat.succ_pos _); subst e6)
          obtain ⟨j, hjL⟩ : ∃ j, L.length = j := ⟨_, rfl⟩
          have hj : (L ++ [0]).length = j + 1 := by rw [List.length_append, hjL]; rfl
          obtain ⟨hc, hf, hcap⟩ := OwnI.last HI6.out hj
          have HBP := Lib.hid (show bump (L ++ [0]) (s[i].toNat - 48) = (L ++ [0]).set j (min ((L ++ [0]).getD j 0 * 10 + (s[i].toNat - 48)) 100000000000) by unfold bump; rw [hj, Nat.add_sub_cancel])
          have hxl : (L ++ [0]).getD j 0 ≤ 100000000000 := by rw [← hjL]; simp
          simp only [hjL]
          generalize (L ++ [0]).getD j 0 = x at *
          have HV := Lib.hid (show (min ((x : Int) * 10 + (s[i].toNat : Nat) - 48) 100000000000) = ((min (x * 10 + (s[i].toNat - 48)) 100000000000 : Nat) : Int) by omega)
          have HI2 := Lib.hid (show OwnI ((w6.setCell ⟨g, j, none⟩ (.int .i64 (min ((x : Int) * 10 + (s[i].toNat : Nat) - 48) 100000000000))).drew) w.heap.size (.slice (some ⟨g, 0, none⟩) (j + 1) cap) (bump (L ++ [0]) (s[i].toNat - 48)) by
            rw [HBP.out, HV.out]
            have h1 := OwnI.set HI6.out j (min (x * 10 + (s[i].toNat - 48)) 100000000000)
            rw [hj] at h1
            exact h1.keep fun _ _ => rfl)
          have HY2 := Lib.hid (show Own ((w6.setCell ⟨g, j, none⟩ (.int .i64 (min ((x : Int) * 10 + (s[i].toNat : Nat) - 48) 100000000000))).drew) w.heap.size u5 r from HY6.out.keep fun k hk => Below.heap_setCell w6 _ _ k fun e => rows_apart HI6.out HY6.out g rfl (by rw [← (show k = g from e)]; exact hk.symm))
          have HB2 := Lib.hid (show Below w.heap.size w ((w6.setCell ⟨g, j, none⟩ (.int .i64 (min ((x : Int) * 10 + (s[i].toNat : Nat) - 48) 100000000000))).drew) from (HB6.out.setCell hge _).drew)
          refine wp_region_R (S := fun W => W = w6.drew) (late := [15]) (by kernel_rfl) ?_
          refine wpAnyR_takeY (i := 0) (v := .slice (some ⟨g, 0, none⟩) (j + 1) cap) rfl (by kernel_rfl) (by kernel_rfl) (by kernel_rfl) (fun _ _ _ h => h) (Or.inl ⟨by kernel_rfl, ?_⟩) ?_
          · intro W _; go_simp <;> first | omega | (intro; omega) | (simp only [IntKind.wrap_i64]; omega) | (rw [min_def]; split <;> omega)
          try simp only [Act.put, List.getElem_toArray, List.getElem_cons_succ, List.getElem_cons_zero, List.setIfInBounds_toArray, List.set_cons_succ, List.set_cons_zero]
          refine wpAnyR_takeY (i := 1) (v := .int .i64 j) rfl (by kernel_rfl) (by kernel_rfl) (by kernel_rfl) (fun _ _ _ h => h) (Or.inl ⟨by kernel_rfl, ?_⟩) ?_
          · intro W _; go_simp <;> first | omega | (intro; omega) | (simp only [IntKind.wrap_i64]; omega) | (rw [min_def]; split <;> omega)
          try simp only [Act.put, List.getElem_toArray, List.getElem_cons_succ, List.getElem_cons_zero, List.setIfInBounds_toArray, List.set_cons_succ, List.set_cons_zero]
          refine wpAnyR_takeY (i := 2) (v := .slice (some ⟨g, 0, none⟩) (j + 1) cap) rfl (by kernel_rfl) (by kernel_rfl) (by kernel_rfl) (fun _ _ _ h => h) (Or.inl ⟨by kernel_rfl, ?_⟩) ?_
          · intro W _; go_simp <;> first | omega | (intro; omega) | (simp only [IntKind.wrap_i64]; omega) | (rw [min_def]; split <;> omega)
          try simp only [Act.put, List.getElem_toArray, List.getElem_cons_succ, List.getElem_cons_zero, List.setIfInBounds_toArray, List.set_cons_succ, List.set_cons_zero]
          refine wpAnyR_takeY (i := 3) (v := .int .i64 j) rfl (by kernel_rfl) (by kernel_rfl) (by kernel_rfl) (fun _ _ _ h => h) (Or.inl ⟨by kernel_rfl, ?_⟩) ?_
          · intro W _; go_simp <;> first | omega | (intro; omega) | (simp only [IntKind.wrap_i64]; omega) | (rw [min_def]; split <;> omega)
          try simp only [Act.put, List.getElem_toArray, List.getElem_cons_succ, List.getElem_cons_zero, List.setIfInBounds_toArray, List.set_cons_succ, List.set_cons_zero]
          refine wpAnyR_takeY (i := 4) (v := .pointer (some ⟨g, j, none⟩)) rfl (by kernel_rfl) (by kernel_rfl) (by kernel_rfl) (fun _ _ _ h => h) (Or.inl ⟨by kernel_rfl, ?_⟩) ?_
          · intro W _; go_simp <;> first | omega | (intro; omega) | (simp only [IntKind.wrap_i64]; omega) | (rw [min_def]; split <;> omega)
          try simp only [Act.put, List.getElem_toArray, List.getElem_cons_succ, List.getElem_cons_zero, List.setIfInBounds_toArray, List.set_cons_succ, List.set_cons_zero]
          refine wpAnyR_take (i := 5) (v := .int .i64 x) rfl (by kernel_rfl) (by kernel_rfl) (by kernel_rfl) (by kernel_rfl) (by kernel_rfl) (fun _ _ _ h => h) (Or.inl ⟨by kernel_rfl, ?_⟩) rfl ?_
          · intro W hSw; subst hSw; go_simp
          try simp only [Act.put, List.getElem_toArray, List.getElem_cons_succ, List.getElem_cons_zero, List.setIfInBounds_toArray, List.set_cons_succ, List.set_cons_zero]
          refine wpAnyR_takeY (i := 6) (v := .int .i64 ((x : Int) * 10)) rfl (by kernel_rfl) (by kernel_rfl) (by kernel_rfl) (fun _ _ _ h => h) (Or.inl ⟨by kernel_rfl, ?_⟩) ?_
          · intro W _; go_simp <;> first | omega | (intro; omega) | (simp only [IntKind.wrap_i64]; omega) | (rw [min_def]; split <;> omega)
          try simp only [Act.put, List.getElem_toArray, List.getElem_cons_succ, List.getElem_cons_zero, List.setIfInBounds_toArray, List.set_cons_succ, List.set_cons_zero]
          refine wpAnyR_takeY (i := 7) (v := .string s) rfl (by kernel_rfl) (by kernel_rfl) (by kernel_rfl) (fun _ _ _ h => h) (Or.inl ⟨by kernel_rfl, ?_⟩) ?_
          · intro W _; go_simp <;> first | omega | (intro; omega) | (simp only [IntKind.wrap_i64]; omega) | (rw [min_def]; split <;> omega)
          try simp only [Act.put, List.getElem_toArray, List.getElem_cons_succ, List.getElem_cons_zero, List.setIfInBounds_toArray, List.set_cons_succ, List.set_cons_zero]
          refine wpAnyR_takeY (i := 8) (v := .int .i64 i) rfl (by kernel_rfl) (by kernel_rfl) (by kernel_rfl) (fun _ _ _ h => h) (Or.inl ⟨by kernel_rfl, ?_⟩) ?_
          · intro W _; go_simp <;> first | omega | (intro; omega) | (simp only [IntKind.wrap_i64]; omega) | (rw [min_def]; split <;> omega)
          try simp only [Act.put, List.getElem_toArray, List.getElem_cons_succ, List.getElem_cons_zero, List.setIfInBounds_toArray, List.set_cons_succ, List.set_cons_zero]
          refine wpAnyR_takeY (i := 9) (v := .int .u8 (s[i].toNat : Nat)) rfl (by kernel_rfl) (by kernel_rfl) (by kernel_rfl) (fun _ _ _ h => h) (Or.inl ⟨by kernel_rfl, ?_⟩) ?_
          · intro W _; go_simp <;> first | omega | (intro; omega) | (simp only [IntKind.wrap_i64]; omega) | (rw [min_def]; split <;> omega)
          try simp only [Act.put, List.getElem_toArray, List.getElem_cons_succ, List.getElem_cons_zero, List.setIfInBounds_toArray, List.set_cons_succ, List.set_cons_zero]
          refine wpAnyR_takeY (i := 10) (v := .int .i64 (s[i].toNat : Nat)) rfl (by kernel_rfl) (by kernel_rfl) (by kernel_rfl) (fun _ _ _ h => h) (Or.inl ⟨by kernel_rfl, ?_⟩) ?_
          · intro W _; go_simp <;> first | omega | (intro; omega) | (simp only [IntKind.wrap_i64]; omega) | (rw [min_def]; split <;> omega)
          try simp only [Act.put, List.getElem_toArray, List.getElem_cons_succ, List.getElem_cons_zero, List.setIfInBounds_toArray, List.set_cons_succ, List.set_cons_zero]
          refine wpAnyR_takeY (i := 11) (v := .int .i64 ((x : Int) * 10 + (s[i].toNat : Nat))) rfl (by kernel_rfl) (by kernel_rfl) (by kernel_rfl) (fun _ _ _ h => h) (Or.inl ⟨by kernel_rfl, ?_⟩) ?_
          · intro W _; go_simp <;> first | omega | (intro; omega) | (simp only [IntKind.wrap_i64]; omega) | (rw [min_def]; split <;> omega)
          try simp only [Act.put, List.getElem_toArray, List.getElem_cons_succ, List.getElem_cons_zero, List.setIfInBounds_toArray, List.set_cons_succ, List.set_cons_zero]
          refine wpAnyR_takeY (i := 12) (v := .int .i64 ((x : Int) * 10 + (s[i].toNat : Nat) - 48)) rfl (by kernel_rfl) (by kernel_rfl) (by kernel_rfl) (fun _ _ _ h => h) (Or.inl ⟨by kernel_rfl, ?_⟩) ?_
          · intro W _; go_simp <;> first | omega | (intro; omega) | (simp only [IntKind.wrap_i64]; omega) | (rw [min_def]; split <;> omega)
          try simp only [Act.put, List.getElem_toArray, List.getElem_cons_succ, List.getElem_cons_zero, List.setIfInBounds_toArray, List.set_cons_succ, List.set_cons_zero]
          refine wpAnyR_takeY (i := 13) (v := .int .i64 (min ((x : Int) * 10 + (s[i].toNat : Nat) - 48) 100000000000)) rfl (by kernel_rfl) (by kernel_rfl) (by kernel_rfl) (fun _ _ _ h => h) (Or.inl ⟨by kernel_rfl, ?_⟩) ?_
          · intro W _; go_simp <;> first | omega | (intro; omega) | (simp only [IntKind.wrap_i64]; omega) | (rw [min_def]; split <;> omega)
          try simp only [Act.put, List.getElem_toArray, List.getElem_cons_succ, List.getElem_cons_zero, List.setIfInBounds_toArray, List.set_cons_succ, List.set_cons_zero]
          refine wpAnyR_takeY (i := 14) (v := .pointer (some ⟨g, j, none⟩)) rfl (by kernel_rfl) (by kernel_rfl) (by kernel_rfl) (fun _ _ _ h => h) (Or.inl ⟨by kernel_rfl, ?_⟩) ?_
          · intro W _; go_simp <;> first | omega | (intro; omega) | (simp only [IntKind.wrap_i64]; omega) | (rw [min_def]; split <;> omega)
          try simp only [Act.put, List.getElem_toArray, List.getElem_cons_succ, List.getElem_cons_zero, List.setIfInBounds_toArray, List.set_cons_succ, List.set_cons_zero]
          refine wpAnyR_one (i := 15) (by kernel_rfl) rfl (fun K hK => ?_)
          go_simp
          refine hK.out _ _ (.inl rfl) ?_
          clear hK K
          try simp only [Act.put, List.getElem_toArray, List.getElem_cons_succ, List.getElem_cons_zero, List.setIfInBounds_toArray, List.set_cons_succ, List.set_cons_zero]
          refine wpAnyR_done (by kernel_rfl) ?_ _
          go_wp2_with fail
          go_roundw
          case rel => exact ⟨i + 1, true, by go_num, rfl, h, HP2, Lib.hid (by rw [HS.out]), by rw [HS.out]; exact HI2, by rw [HS.out]; exact HY2, HB2⟩
          case measure => simp [intOf]; omega
    · obtain rfl : i = s.size := by omega
      have HE := Lib.hid (show s.data.toList.take s.size = s.data.toList by rw [← HL.out, List.take_length])
      have HIE := Lib.hid (show OwnI wr.drew w.heap.size u4 (numsTo s.data.toList).1 by have h1 := hI.out; rw [HE.out] at h1; exact h1.keep fun _ _ => rfl)
      have hy := hY.out
      rw [HE.out] at hy
      have hy2 : Own wr.drew w.heap.size u5 (numsTo s.data.toList).2.1 := hy.keep fun _ _ => rfl
      have HBE := Lib.hid hB.out.drew
      obtain ⟨A2, c2, hv2, hcv⟩ := own_string hy2
      subst hv2
      have HCV := Lib.hid hcv
      clear hy hy2 hcv hI hY hP ho hB
      go_upto_region 15 with fail
      refine wp_region_R (S := fun W => W = wr.drew) (late := []) (by kernel_rfl) ?_
      refine wpAnyR_takeY (i := 0) (v := u4) rfl (by kernel_rfl) (by kernel_rfl) (by kernel_rfl) (fun _ _ _ h => h) (Or.inl ⟨by kernel_rfl, ?_⟩) ?_
      · intro W _; go_simp
      try simp only [Act.put, List.getElem_toArray, List.getElem_cons_succ, List.getElem_cons_zero, List.setIfInBounds_toArray, List.set_cons_succ, List.set_cons_zero]
      refine wpAnyR_takeY (i := 1) (v := .slice A2 (numsTo s.data.toList).2.1.length c2) rfl (by kernel_rfl) (by kernel_rfl) (by kernel_rfl) (fun _ _ _ h => h) (Or.inl ⟨by kernel_rfl, ?_⟩) ?_
      · intro W _; go_simp
      try simp only [Act.put, List.getElem_toArray, List.getElem_cons_succ, List.getElem_cons_zero, List.setIfInBounds_toArray, List.set_cons_succ, List.set_cons_zero]
      refine wpAnyR_take (i := 2) (v := .string ⟨(numsTo s.data.toList).2.1.toArray⟩) rfl (by kernel_rfl) (by kernel_rfl) (by kernel_rfl) (by kernel_rfl) (by kernel_rfl) (fun _ _ _ h => h) (Or.inl ⟨by kernel_rfl, ?_⟩) rfl ?_
      · intro W hSw; subst hSw; go_simp; rw [HCV.out]; rfl
      try simp only [Act.put, List.getElem_toArray, List.getElem_cons_succ, List.getElem_cons_zero, List.setIfInBounds_toArray, List.set_cons_succ, List.set_cons_zero]
      refine wpAnyR_takeY (i := 3) (v := u4) rfl (by kernel_rfl) (by kernel_rfl) (by kernel_rfl) (fun _ _ _ h => h) (Or.inl ⟨by kernel_rfl, ?_⟩) ?_
      · intro W _; go_simp
      try simp only [Act.put, List.getElem_toArray, List.getElem_cons_succ, List.getElem_cons_zero, List.setIfInBounds_toArray, List.set_cons_succ, List.set_cons_zero]
      refine wpAnyR_takeY (i := 4) (v := .string ⟨(numsTo s.data.toList).2.1.toArray⟩) rfl (by kernel_rfl) (by kernel_rfl) (by kernel_rfl) (fun _ _ _ h => h) (Or.inl ⟨by kernel_rfl, ?_⟩) ?_
      · intro W _; go_simp
      try simp only [Act.put, List.getElem_toArray, List.getElem_cons_succ, List.getElem_cons_zero, List.setIfInBounds_toArray, List.set_cons_succ, List.set_cons_zero]
      refine wpAnyR_done (by kernel_rfl) ?_ _
      go_wp2_with fail
      try simp only [Exit.inBlock, Exit.then]
      refine bodyPost_ret (results_tmp2 rfl _ _ _) rfl ?_
      exact ⟨u4, rfl, HIE.out, HBE.out⟩
end Go.Proofs.YtikkocdbaekjmaaGreatDoor
