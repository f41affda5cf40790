/- Amounts' texts there and back: plain. -/
import Derived.Test.YthkobjbemmllfaaGreatDoorText
import Derived.Lib.ItoaNum
import Derived.Lib.ParseIntBCases
namespace Go.Proofs.YthkobjbemmllfaaGreatDoor
def DigB (c : UInt8) : Prop := 48 ≤ c.toNat ∧ c.toNat ≤ 57
/-- What digits spell. -/
def valD (acc : Nat) : List UInt8 → Nat
  | [] => acc
  | c :: r => valD (acc * 10 + (c.toNat - 48)) r
theorem valD_snoc : ∀ (l : List UInt8) (acc : Nat) (c : UInt8), valD acc (l ++ [c]) = valD acc l * 10 + (c.toNat - 48)
  | [], _, _ => rfl
  | _ :: r, _, c => valD_snoc r _ c
theorem valD_mono : ∀ (l : List UInt8) (acc : Nat), acc ≤ valD acc l
  | [], _ => Nat.le_refl _
  | _ :: r, _ => Nat.le_trans (by omega) (valD_mono r _)
theorem parseM_ok {M : Nat} : ∀ {l : List UInt8} {acc u : Nat}, (∀ c ∈ l, DigB c) → Lib.parseUintM M acc l = .ok u → u = valD acc l
  | [], acc, u, _, h => by
    simp only [Lib.parseUintM] at h
    injection h with h; exact h.symm
  | c :: r, acc, u, hd, h => by
    have hc := hd c (List.mem_cons_self ..)
    unfold DigB at hc
    simp only [Lib.parseUintM] at h
    rw [if_pos hc] at h
    split at h
    · cases h
    · split at h
      · cases h
      · exact parseM_ok (l := r) (fun c hm => hd c (List.mem_cons_of_mem _ hm)) h
theorem parseM_of {M : Nat} (hM : M ≤ 18446744073709551615) : ∀ {l : List UInt8} {acc : Nat}, (∀ c ∈ l, DigB c) → valD acc l ≤ M → Lib.parseUintM M acc l = .ok (valD acc l)
  | [], acc, _, _ => rfl
  | c :: r, acc, hd, h => by
    have hc := hd c (List.mem_cons_self ..)
    unfold DigB at hc
    simp only [Lib.parseUintM]
    have hv : valD (acc * 10 + (c.toNat - 48)) r ≤ M := h
    have := valD_mono r (acc * 10 + (c.toNat - 48))
    rw [if_pos hc, if_neg (by omega), if_neg (by omega)]
    exact parseM_of hM (fun c hm => hd c (List.mem_cons_of_mem _ hm)) hv
theorem dig_toNat {k : Nat} (h : k < 10) : (UInt8.ofNat (48 + k)).toNat = 48 + k := by
  rw [UInt8.toNat_ofNat']; omega
theorem decDigits_dig (u : Nat) : ∀ c ∈ Lib.decDigits u, DigB c := by
  induction u using Nat.strongRecOn with
  | ind u ih =>
    intro c hc
    rw [Lib.decDigits] at hc
    split at hc
    · rw [List.mem_singleton] at hc
      subst hc
      unfold DigB
      rw [dig_toNat (by omega)]; omega
    · rcases List.mem_append.1 hc with h | h
      · exact ih (u / 10) (by omega) c h
      · rw [List.mem_singleton] at h
        subst h
        unfold DigB
        rw [dig_toNat (by omega)]; omega
theorem valD_dec (u : Nat) : valD 0 (Lib.decDigits u) = u := by
  induction u using Nat.strongRecOn with
  | ind u ih =>
    rw [Lib.decDigits]
    split
    · show 0 * 10 + ((UInt8.ofNat (48 + u)).toNat - 48) = u
      rw [dig_toNat (by omega)]; omega
    · rw [valD_snoc, ih (u / 10) (by omega), dig_toNat (by omega)]; omega
theorem valD_zeros (l : List UInt8) : ∀ k, valD 0 (List.replicate k 48 ++ l) = valD 0 l
  | 0 => rfl
  | k + 1 => by
    rw [List.replicate_succ, List.cons_append]
    show valD (0 * 10 + ((48 : UInt8).toNat - 48)) _ = _
    exact valD_zeros l k
theorem dig_eq {c : UInt8} {k : Nat} (h : DigB c) (hk : c.toNat - 48 = k) : UInt8.ofNat (48 + k) = c := by
  have := c.toNat_lt
  unfold DigB at h
  apply UInt8.toNat_inj.1
  rw [UInt8.toNat_ofNat']; omega
theorem dec_zero : Lib.decDigits 0 = [48] := by rw [Lib.decDigits]; rfl
/-- Digits are the noughts ahead and what their number is written as. -/
theorem digits_pad : ∀ (k : Nat) (T : List UInt8), T.length = k + 1 → (∀ c ∈ T, DigB c) → (Lib.decDigits (valD 0 T)).length ≤ T.length ∧ List.replicate (T.length - (Lib.decDigits (valD 0 T)).length) 48 ++ Lib.decDigits (valD 0 T) = T
  | 0, T, hl, hd => by
    obtain ⟨c, rfl⟩ := List.length_eq_one_iff.1 hl
    have hc := hd c (List.mem_singleton.2 rfl)
    have e : valD 0 [c] = c.toNat - 48 := by show 0 * 10 + (c.toNat - 48) = _; omega
    rw [e]
    have : c.toNat - 48 < 10 := by unfold DigB at hc; omega
    rw [Lib.decDigits, dif_pos this]
    rw [dig_eq hc rfl]
    exact ⟨Nat.le_refl _, rfl⟩
  | k + 1, T, hl, hd => by
    obtain ⟨T', c, rfl⟩ : ∃ T' c, T = T' ++ [c] := ⟨T.dropLast, T.getLast (fun e => by rw [e] at hl; simp at hl), (List.dropLast_concat_getLast _).symm⟩
    have hl' : T'.length = k + 1 := by simp at hl; omega
    obtain ⟨h1, h2⟩ := digits_pad k T' hl' (fun c hm => hd c (List.mem_append_left _ hm))
    have hc := hd c (List.mem_append_right _ (List.mem_singleton.2 rfl))
    rw [valD_snoc]
    generalize hv : valD 0 T' = v at *
    have hcn : c.toNat - 48 < 10 := by unfold DigB at hc; omega
    by_cases hb : v * 10 + (c.toNat - 48) < 10
    · have hv0 : v = 0 := by omega
      subst hv0
      rw [dec_zero] at h2
      rw [Lib.decDigits, dif_pos hb, show 0 * 10 + (c.toNat - 48) = c.toNat - 48 by omega, dig_eq hc rfl]
      refine ⟨by simp, ?_⟩
      rw [← h2]
      simp only [List.length_append, List.length_replicate, List.length_singleton]
      rw [dec_zero] at h1
      have : T'.length - 1 + 1 + 1 - 1 = T'.length - 1 + 1 := by omega
      rw [this, List.replicate_succ']
    · rw [Lib.decDigits, dif_neg hb, show (v * 10 + (c.toNat - 48)) / 10 = v by omega, show (v * 10 + (c.toNat - 48)) % 10 = c.toNat - 48 by omega, dig_eq hc rfl]
      simp only [List.length_append, List.length_singleton]
      refine ⟨by omega, ?_⟩
      rw [Nat.add_sub_add_right, ← List.append_assoc, h2]

structure Form (s : List UInt8) (d : Nat) (neg : Bool) (L R : List UInt8) : Prop where
  hs : s = (if neg then [45] else []) ++ (L ++ if d = 0 then [] else 46 :: R)
  hR : R.length = d
  hL : L ≠ []
  hz : L.length ≤ 1 ∨ L.head? ≠ some 48
  dL : ∀ c ∈ L, DigB c
  dR : ∀ c ∈ R, DigB c
  nz : neg = true → valD 0 (L ++ R) ≠ 0
theorem dec_pos (u : Nat) : 1 ≤ (Lib.decDigits u).length := by
  rw [Lib.decDigits]; split <;> simp
theorem head_app {l r : List UInt8} (h : l ≠ []) : (l ++ r).head? = l.head? := by
  cases l with
  | nil => exact absurd rfl h
  | cons _ _ => rfl
theorem dec_head (u : Nat) : (Lib.decDigits u).head? = some 48 → u = 0 := by
  induction u using Nat.strongRecOn with
  | ind u ih =>
    intro h
    rw [Lib.decDigits] at h
    split at h
    · have h : UInt8.ofNat (48 + u) = 48 := by simpa using h
      have e := congrArg UInt8.toNat h
      rw [dig_toNat (by omega)] at e
      have : (48 : UInt8).toNat = 48 := rfl
      omega
    · rw [head_app (fun e => by have := dec_pos (u / 10); rw [e] at this; simp at this)] at h
      have := ih (u / 10) (by omega) h
      omega
theorem padz_form {s : List UInt8} {d : Nat} {neg : Bool} {L R : List UInt8} (h : Form s d neg L R) : padz d (Lib.decDigits (valD 0 (L ++ R))) = L ++ R := by
  have hT : ∀ c ∈ L ++ R, DigB c := fun c hc => by
    rcases List.mem_append.1 hc with h' | h'
    · exact h.dL c h'
    · exact h.dR c h'
  have hL := List.length_pos_iff.2 h.hL
  have hlen : (L ++ R).length = L.length + d := by rw [List.length_append, h.hR]
  obtain ⟨h1, h2⟩ := digits_pad (L.length + d - 1) (L ++ R) (by omega) hT
  unfold padz
  generalize Lib.decDigits (valD 0 (L ++ R)) = D at *
  by_cases hl : L.length = 1
  · rw [show d + 1 - D.length = (L ++ R).length - D.length by omega]
    exact h2
  · have h0 : (L ++ R).length - D.length = 0 := by
      rcases Nat.eq_zero_or_pos ((L ++ R).length - D.length) with e | e
      · exact e
      · exfalso
        obtain ⟨k, hk⟩ : ∃ k, (L ++ R).length - D.length = k + 1 := ⟨_, (Nat.succ_pred_eq_of_pos e).symm⟩
        rw [hk, List.replicate_succ, List.cons_append] at h2
        have e1 : (L ++ R).head? = some 48 := by rw [← h2]; rfl
        rw [head_app h.hL] at e1
        rcases h.hz with h' | h'
        · omega
        · exact h' e1
    rw [show d + 1 - D.length = 0 by omega]
    rw [h0] at h2
    exact h2
theorem take_left {L R : List UInt8} {d : Nat} (h : R.length = d) : (L ++ R).take ((L ++ R).length - d) = L ∧ (L ++ R).drop ((L ++ R).length - d) = R := by
  have e : (L ++ R).length - d = L.length := by rw [List.length_append, h]; omega
  rw [e]
  exact ⟨List.take_left, List.drop_left⟩
theorem text_of_form {s : List UInt8} {d : Nat} {neg : Bool} {L R : List UInt8} (h : Form s d neg L R) : mtext (if neg then -((valD 0 (L ++ R) : Nat) : Int) else ((valD 0 (L ++ R) : Nat) : Int)) d = s := by
  have hp := padz_form h
  have hneg : ((if neg then -((valD 0 (L ++ R) : Nat) : Int) else ((valD 0 (L ++ R) : Nat) : Int)) < 0) ↔ (neg = true) := by
    have := h.nz
    cases neg with
    | true =>
      have := this rfl
      rw [if_pos rfl]
      exact ⟨fun _ => rfl, fun _ => by omega⟩
    | false => simp only [Bool.false_eq_true, if_false, iff_false]; omega
  have habs : (if neg then -((valD 0 (L ++ R) : Nat) : Int) else ((valD 0 (L ++ R) : Nat) : Int)).natAbs = valD 0 (L ++ R) := by
    cases neg <;> simp
  unfold mtext
  rw [habs, hp]
  obtain ⟨t1, t2⟩ := take_left (L := L) h.hR
  rw [t1, t2]
  simp only [hneg]
  rw [h.hs]
  congr 1
  by_cases hd : d = 0
  · rw [if_pos hd, if_pos hd]
    have hR0 : R = [] := List.eq_nil_of_length_eq_zero (h.hR.trans hd)
    rw [hR0, List.append_nil] at hp
    rw [hR0, List.append_nil]
    have := dec_pos (valD 0 L)
    have e : padz d (Lib.decDigits (valD 0 L)) = Lib.decDigits (valD 0 L) := by
      unfold padz; rw [show d + 1 - (Lib.decDigits (valD 0 L)).length = 0 by omega]; rfl
    rw [← e, hp]
  · rw [if_neg hd, if_neg hd]
theorem form_of_text (a : Int) (d : Nat) : ∃ L R, Form (mtext a d) d (decide (a < 0)) L R ∧ valD 0 (L ++ R) = a.natAbs := by
  have hd := decDigits_dig a.natAbs
  have hv := valD_dec a.natAbs
  have hp := dec_pos a.natAbs
  have hh := dec_head a.natAbs
  have hsg : (if a < 0 then [(45 : UInt8)] else []) = if decide (a < 0) = true then [45] else [] := by
    by_cases h : a < 0 <;> simp [h]
  have hnz : decide (a < 0) = true → a.natAbs ≠ 0 := fun h => by have := of_decide_eq_true h; omega
  have h1 : a.natAbs = 0 → (Lib.decDigits a.natAbs).length ≤ 1 := fun e => by rw [e, dec_zero]; exact Nat.le_refl _
  unfold mtext
  rw [hsg]
  generalize Lib.decDigits a.natAbs = D at *
  by_cases h0 : d = 0
  · subst h0
    refine ⟨D, [], ⟨by simp, rfl, fun e => by rw [e] at hp; simp at hp, ?_, hd, (fun c hc => by cases hc), fun h => by rw [List.append_nil, hv]; exact hnz h⟩, by rw [List.append_nil, hv]⟩
    by_cases hl : D.length ≤ 1
    · exact .inl hl
    · exact .inr fun e => hl (h1 (hh e))
  · rw [if_neg h0]
    have hvT : valD 0 (padz d D) = a.natAbs := by unfold padz; rw [valD_zeros]; exact hv
    have hlT : d + 1 ≤ (padz d D).length := by unfold padz; simp; omega
    have hdT : ∀ c ∈ padz d D, DigB c := fun c hc => by
      unfold padz at hc
      rcases List.mem_append.1 hc with h' | h'
      · rw [(List.mem_replicate.1 h').2]; unfold DigB; decide
      · exact hd c h'
    have hzT : (padz d D).length = d + 1 ∨ (padz d D).head? ≠ some 48 := by
      by_cases hl : D.length ≤ d + 1
      · left; unfold padz; simp; omega
      · right
        have e : padz d D = D := by unfold padz; rw [show d + 1 - D.length = 0 by omega]; rfl
        rw [e]
        intro h'
        have := h1 (hh h')
        omega
    generalize padz d D = T at *
    have hlt : (T.take (T.length - d)).length = T.length - d := by rw [List.length_take]; omega
    refine ⟨T.take (T.length - d), T.drop (T.length - d), ⟨by rw [if_neg h0], by rw [List.length_drop]; omega, fun e => by rw [e] at hlt; simp at hlt; omega, ?_, fun c hc => hdT c (List.mem_of_mem_take hc), fun c hc => hdT c (List.mem_of_mem_drop hc), fun h => by rw [List.take_append_drop, hvT]; exact hnz h⟩, by rw [List.take_append_drop, hvT]⟩
    rcases hzT with h' | h'
    · left; rw [hlt]; omega
    · right
      rw [List.head?_take, if_neg (by omega)]
      exact h'

/-- What strconv.ParseInt reads. -/
theorem parse_sign {T : List UInt8} {neg : Bool} (hT : T ≠ []) (hd : ∀ c ∈ T, DigB c) : Lib.parseIntB 64 ((if neg then [45] else []) ++ T) = if neg then Lib.signedC (2 ^ 63) (Lib.parseUintB 64 T) else Lib.signlessC (2 ^ 63) (Lib.parseUintB 64 T) := by
  cases neg with
  | true => rw [if_pos rfl, if_pos rfl]; exact Lib.parseIntB_minus 64 T
  | false =>
    cases T with
    | nil => exact absurd rfl hT
    | cons c r =>
      have := hd c (List.mem_cons_self ..)
      unfold DigB at this
      exact Lib.parseIntB_plain 64 c r (by omega) (by omega)
theorem parseM_dig {M : Nat} : ∀ {l : List UInt8} {acc : Nat}, (∀ c ∈ l, DigB c) → Lib.parseUintM M acc l = .range ∨ ∃ u, Lib.parseUintM M acc l = .ok u
  | [], acc, _ => .inr ⟨acc, rfl⟩
  | c :: r, acc, hd => by
    have hc := hd c (List.mem_cons_self ..)
    unfold DigB at hc
    simp only [Lib.parseUintM]
    rw [if_pos hc]
    split
    · exact .inl rfl
    · split
      · exact .inl rfl
      · exact parseM_dig (l := r) (fun c hm => hd c (List.mem_cons_of_mem _ hm))
theorem parseU_dig {T : List UInt8} (hT : T ≠ []) (hd : ∀ c ∈ T, DigB c) : Lib.parseUintB 64 T = .range ∨ ∃ u, Lib.parseUintB 64 T = .ok u := by
  unfold Lib.parseUintB
  rw [if_neg hT]
  exact parseM_dig hd
theorem parse_ok {T : List UInt8} {neg : Bool} {v : Int} (hT : T ≠ []) (hd : ∀ c ∈ T, DigB c) (h : Lib.parseIntB 64 ((if neg then [45] else []) ++ T) = .ok v) : v = if neg then -((valD 0 T : Nat) : Int) else ((valD 0 T : Nat) : Int) := by
  rw [parse_sign hT hd] at h
  rcases parseU_dig hT hd with hp | ⟨u, hp⟩
  · rw [hp] at h; cases neg <;> cases h
  · have hu : u = valD 0 T := by
      unfold Lib.parseUintB at hp
      rw [if_neg hT] at hp
      exact parseM_ok hd hp
    rw [hp] at h
    cases neg with
    | true =>
      rw [if_pos rfl] at h ⊢
      unfold Lib.signedC at h
      simp only at h
      split at h
      · cases h
      · injection h with h; rw [← h, hu]
    | false =>
      rw [if_neg (by decide)] at h ⊢
      unfold Lib.signlessC at h
      simp only at h
      split at h
      · cases h
      · injection h with h; rw [← h, hu]
theorem parse_of {T : List UInt8} {neg : Bool} (hT : T ≠ []) (hd : ∀ c ∈ T, DigB c) (h1 : neg = true → valD 0 T ≤ 9223372036854775808) (h2 : neg = false → valD 0 T < 9223372036854775808) :
    Lib.parseIntB 64 ((if neg then [45] else []) ++ T) = .ok (if neg then -((valD 0 T : Nat) : Int) else ((valD 0 T : Nat) : Int)) := by
  rw [parse_sign hT hd]
  have hle : valD 0 T ≤ 18446744073709551615 := by
    cases neg with
    | true => have := h1 rfl; omega
    | false => have := h2 rfl; omega
  have hp : Lib.parseUintB 64 T = .ok (valD 0 T) := by
    unfold Lib.parseUintB
    rw [if_neg hT]
    exact parseM_of (by decide) hd hle
  rw [hp]
  cases neg with
  | true =>
    rw [if_pos rfl, if_pos rfl]
    have := h1 rfl
    unfold Lib.signedC
    simp only
    rw [if_neg (by omega)]
  | false =>
    rw [if_neg (by decide), if_neg (by decide)]
    have := h2 rfl
    unfold Lib.signlessC
    simp only
    rw [if_neg (by omega)]
theorem Form.digits {s : List UInt8} {d : Nat} {neg : Bool} {L R : List UInt8} (h : Form s d neg L R) : L ++ R ≠ [] ∧ ∀ c ∈ L ++ R, DigB c :=
  ⟨fun e => h.hL (List.append_eq_nil_iff.1 e).1, fun c hc => by
    rcases List.mem_append.1 hc with h' | h'
    · exact h.dL c h'
    · exact h.dR c h'⟩
/-- What is read is the text of what was read. -/
theorem text_of_read {s : List UInt8} {d : Nat} {neg : Bool} {L R : List UInt8} {v : Int} (h : Form s d neg L R) (hp : Lib.parseIntB 64 ((if neg then [45] else []) ++ (L ++ R)) = .ok v) : mtext v d = s := by
  rw [parse_ok h.digits.1 h.digits.2 hp]
  exact text_of_form h
/-- A text is read as its amount. -/
theorem read_text {a : Int} {d : Nat} {L R : List UInt8} (h1 : -9223372036854775808 ≤ a) (h2 : a ≤ 9223372036854775807) (h : Form (mtext a d) d (decide (a < 0)) L R) (hv : valD 0 (L ++ R) = a.natAbs) : Lib.parseIntB 64 ((if decide (a < 0) then [45] else []) ++ (L ++ R)) = .ok a := by
  rw [parse_of h.digits.1 h.digits.2 (fun e => by rw [hv]; omega) (fun e => by have := of_decide_eq_false e; rw [hv]; omega), hv]
  congr 1
  by_cases ha : a < 0
  · rw [if_pos (by simpa using ha)]; omega
  · rw [if_neg (by simpa using ha)]; omega
theorem mtext_inj {a b : Int} {d : Nat} (h : mtext a d = mtext b d) : a = b := by
  have key : ∀ {x y : Int}, x.natAbs = y.natAbs → decide (x < 0) = decide (y < 0) → x = y := fun e1 e2 => by
    have := decide_eq_decide.1 e2; omega
  obtain ⟨L, R, hF, hv⟩ := form_of_text a d
  obtain ⟨L', R', hF', hv'⟩ := form_of_text b d
  rw [← h] at hF'
  have hs := hF.hs
  rw [hF'.hs] at hs
  have hb : ∀ {l : List UInt8} {d : Nat} {n : Bool} {A B : List UInt8}, Form l d n A B → (∃ c r, l = c :: r ∧ (c = 45 ↔ n = true)) := fun {l d n A B} f => by
    have := f.hs
    cases n with
    | true => exact ⟨45, _, this, by simp⟩
    | false =>
      cases hA : A with
      | nil => exact absurd hA f.hL
      | cons c t =>
        refine ⟨c, t ++ (if d = 0 then [] else 46 :: B), by rw [this, hA]; rfl, ?_⟩
        have hc := f.dL c (by rw [hA]; exact List.mem_cons_self ..)
        unfold DigB at hc
        constructor
        · intro e; rw [e] at hc; exact absurd hc (by decide)
        · intro e; cases e
  obtain ⟨c, t, e1, e2⟩ := hb hF
  obtain ⟨c', t', e1', e2'⟩ := hb hF'
  rw [e1] at e1'
  injection e1' with ec _
  subst ec
  have hsg : decide (a < 0) = decide (b < 0) := by
    rw [Bool.eq_iff_iff, ← e2, ← e2']
  rw [hsg] at hs
  have hs := List.append_cancel_left hs
  have hdig : ∀ {A : List UInt8}, (∀ x ∈ A, DigB x) → (46 : UInt8) ∉ A := fun hA hm => absurd (hA 46 hm) (by unfold DigB; decide)
  have hLR : L' ++ R' = L ++ R := by
    by_cases h0 : d = 0
    · rw [if_pos h0, if_pos h0] at hs
      have hR0 : R = [] := List.eq_nil_of_length_eq_zero (hF.hR.trans h0)
      have hR0' : R' = [] := List.eq_nil_of_length_eq_zero (hF'.hR.trans h0)
      rw [hR0, hR0']; exact hs
    · rw [if_neg h0, if_neg h0] at hs
      have hl : L'.length = L.length := by
        have := congrArg List.length hs
        simp [hF.hR, hF'.hR] at this
        exact this
      obtain ⟨p, q⟩ := List.append_inj hs hl
      injection q with _ q
      rw [p, q]
  exact key (by rw [← hv, ← hv', hLR]) hsg
theorem mtext_len {a : Int} {d : Nat} (hd : d ≤ 6) (hl : (Lib.decDigits a.natAbs).length ≤ 19) : (mtext a d).length ≤ 28 := by
  unfold mtext padz
  split <;> split <;> simp <;> omega
/-- Behind a minus sign, if there is one. -/
def plainOf : List UInt8 → List UInt8
  | [] => []
  | c :: r => if c = 45 then r else c :: r
theorem plainOf_cons (c : UInt8) (r : List UInt8) : plainOf (c :: r) = if c = 45 then r else c :: r := rfl
/-- What lies ahead of the first point, what behind it; is there one? -/
def cut46 : List UInt8 → List UInt8 × List UInt8 × Bool
  | [] => ([], [], false)
  | c :: r => if c = 46 then ([], r, true) else (c :: (cut46 r).1, (cut46 r).2.1, (cut46 r).2.2)
theorem cut46_eq : ∀ l, l = (cut46 l).1 ++ if (cut46 l).2.2 = true then 46 :: (cut46 l).2.1 else (cut46 l).2.1
  | [] => rfl
  | c :: r => by
    unfold cut46
    by_cases h : c = 46
    · rw [if_pos h, h]; rfl
    · rw [if_neg h]
      have := cut46_eq r
      simp only [List.cons_append]
      rw [← this]
theorem cut46_no : ∀ {l}, (46 : UInt8) ∉ l → cut46 l = (l, [], false)
  | [], _ => rfl
  | c :: r, h => by
    unfold cut46
    rw [if_neg (fun e => h (by rw [e]; exact List.mem_cons_self ..)), cut46_no (fun m => h (List.mem_cons_of_mem _ m))]
theorem cut46_yes : ∀ {l} (R : List UInt8), (46 : UInt8) ∉ l → cut46 (l ++ 46 :: R) = (l, R, true)
  | [], R, _ => by rw [List.nil_append]; unfold cut46; rw [if_pos rfl]
  | c :: r, R, h => by
    rw [List.cons_append]
    unfold cut46
    rw [if_neg (fun e => h (by rw [e]; exact List.mem_cons_self ..)), cut46_yes R (fun m => h (List.mem_cons_of_mem _ m))]
theorem cut46_right : ∀ {l}, (cut46 l).2.2 = false → (cut46 l).2.1 = []
  | [], _ => rfl
  | c :: r, h => by
    unfold cut46 at h ⊢
    by_cases e : c = 46
    · rw [if_pos e] at h; cases h
    · rw [if_neg e] at h ⊢; exact cut46_right h
theorem valD_zero : ∀ {l : List UInt8} {acc : Nat}, (∀ c ∈ l, DigB c) → valD acc l = 0 → acc = 0 ∧ ∀ c ∈ l, c = 48
  | [], acc, _, h => ⟨h, fun c hc => by cases hc⟩
  | c :: r, acc, hd, h => by
    obtain ⟨h1, h2⟩ := valD_zero (l := r) (acc := acc * 10 + (c.toNat - 48)) (fun c m => hd c (List.mem_cons_of_mem _ m)) h
    have hc := hd c (List.mem_cons_self ..)
    unfold DigB at hc
    refine ⟨by omega, fun x hx => ?_⟩
    rcases List.mem_cons.1 hx with e | e
    · rw [e]
      apply UInt8.toNat_inj.1
      show c.toNat = 48
      omega
    · exact h2 x e
theorem valD_all48 : ∀ {l : List UInt8}, (∀ c ∈ l, c = 48) → valD 0 l = 0
  | [], _ => rfl
  | c :: r, h => by
    have hc := h c (List.mem_cons_self ..)
    subst hc
    exact valD_all48 (l := r) (fun x m => h x (List.mem_cons_of_mem _ m))
/-- What form asks of a text, the parts that Cut hands out at hand. -/
structure FormP (s : List UInt8) (d : Nat) (L R : List UInt8) (p : Bool) : Prop where
  hp : p = decide (0 < d)
  hR : R.length = d
  hL : L ≠ []
  hz : L.length ≤ 1 ∨ L.head? ≠ some 48
  dL : ∀ c ∈ L, DigB c
  dR : ∀ c ∈ R, DigB c
  nz : (∃ c ∈ L ++ R, c ≠ 48) ∨ plainOf s = s
theorem plain_eq (s : List UInt8) : s = plainOf s ∨ s = 45 :: plainOf s := by
  cases s with
  | nil => exact .inl rfl
  | cons c r =>
    rw [plainOf_cons]
    by_cases h : c = 45
    · rw [if_pos h, h]; exact .inr rfl
    · rw [if_neg h]; exact .inl rfl
theorem form_of {s : List UInt8} {d : Nat} (h : FormP s d (cut46 (plainOf s)).1 (cut46 (plainOf s)).2.1 (cut46 (plainOf s)).2.2) : ∃ neg, Form s d neg (cut46 (plainOf s)).1 (cut46 (plainOf s)).2.1 := by
  have hc := cut46_eq (plainOf s)
  have hr := cut46_right (l := plainOf s)
  generalize (cut46 (plainOf s)).1 = L at *
  generalize (cut46 (plainOf s)).2.1 = R at *
  generalize (cut46 (plainOf s)).2.2 = p at *
  have hb : plainOf s = L ++ if d = 0 then [] else 46 :: R := by
    rw [hc]
    by_cases h0 : d = 0
    · have hpf : p = false := by rw [h.hp]; simp [h0]
      rw [hpf, if_pos h0, if_neg (by decide), hr hpf]
    · have hpt : p = true := by rw [h.hp]; simp; omega
      rw [hpt, if_neg h0, if_pos rfl]
  rcases plain_eq s with e | e
  · exact ⟨false, ⟨by rw [if_neg (by decide), List.nil_append, ← hb]; exact e, h.hR, h.hL, h.hz, h.dL, h.dR, fun h => by cases h⟩⟩
  · refine ⟨true, ⟨by rw [if_pos rfl, ← hb]; exact e, h.hR, h.hL, h.hz, h.dL, h.dR, fun _ h0 => ?_⟩⟩
    rcases h.nz with ⟨c, hc, hne⟩ | h'
    · exact hne ((valD_zero (fun c hc => by
        rcases List.mem_append.1 hc with h' | h'
        · exact h.dL c h'
        · exact h.dR c h') h0).2 c hc)
    · rw [h'] at e
      have := congrArg List.length e
      simp at this
theorem of_form {s : List UInt8} {d : Nat} {neg : Bool} {L R : List UInt8} (h : Form s d neg L R) : (cut46 (plainOf s)).1 = L ∧ (cut46 (plainOf s)).2.1 = R ∧ FormP s d (cut46 (plainOf s)).1 (cut46 (plainOf s)).2.1 (cut46 (plainOf s)).2.2 ∧ (neg = true ↔ plainOf s ≠ s) := by
  have hno : ∀ {A : List UInt8}, (∀ x ∈ A, DigB x) → (46 : UInt8) ∉ A := fun hA hm => absurd (hA 46 hm) (by unfold DigB; decide)
  have hpl : plainOf s = L ++ (if d = 0 then [] else 46 :: R) ∧ (neg = true ↔ plainOf s ≠ s) := by
    have hs := h.hs
    cases neg with
    | true =>
      rw [if_pos rfl] at hs
      have e : plainOf s = L ++ (if d = 0 then [] else 46 :: R) := by
        rw [hs]
        show plainOf (45 :: _) = _
        rw [plainOf_cons, if_pos rfl]
        rfl
      refine ⟨e, fun _ he => ?_, fun _ => rfl⟩
      rw [he, hs] at e
      have := congrArg List.length e
      simp at this
    | false =>
      rw [if_neg (by decide), List.nil_append] at hs
      have e : plainOf s = s := by
        cases hA : L with
        | nil => exact absurd hA h.hL
        | cons c t =>
          rw [hA] at hs
          rw [hs, List.cons_append, plainOf_cons]
          have hc := h.dL c (by rw [hA]; exact List.mem_cons_self ..)
          have hne : c ≠ 45 := fun e => by rw [e] at hc; unfold DigB at hc; exact absurd hc (by decide)
          rw [if_neg hne]
      exact ⟨by rw [e]; exact hs, (fun h => by cases h), fun h => absurd e h⟩
  have hcut : cut46 (plainOf s) = (L, R, decide (0 < d)) := by
    rw [hpl.1]
    by_cases h0 : d = 0
    · rw [if_pos h0, List.append_nil, cut46_no (hno h.dL), List.eq_nil_of_length_eq_zero (h.hR.trans h0)]
      simp [h0]
    · rw [if_neg h0, cut46_yes R (hno h.dL)]
      simp; omega
  rw [hcut]
  refine ⟨rfl, rfl, ⟨rfl, h.hR, h.hL, h.hz, h.dL, h.dR, ?_⟩, hpl.2⟩
  by_cases hn : plainOf s = s
  · exact .inr hn
  · left
    have h0 := h.nz (hpl.2.2 hn)
    rcases Classical.em (∃ c ∈ L ++ R, c ≠ 48) with h' | h'
    · exact h'
    · exact absurd (valD_all48 fun c hc => Classical.byContradiction fun e => h' ⟨c, hc, e⟩) h0
end Go.Proofs.YthkobjbemmllfaaGreatDoor
