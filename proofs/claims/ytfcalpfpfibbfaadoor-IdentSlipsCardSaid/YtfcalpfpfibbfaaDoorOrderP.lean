/- Tokens in order, back and forth; systems' accounts: plain laws. -/
import Derived.Test.YtfcalpfpfibbfaaDoorTokensW
namespace Go.Proofs.YtfcalpfpfibbfaaDoor
open Go.RowKit Go.Sort

theorem bytesLess_self : ∀ l : List UInt8, Op.bytesLess l l = false
  | [] => rfl
  | a :: x => by
    unfold Op.bytesLess
    rw [bytesLess_self x, Bool.and_false, Bool.or_false]
    exact decide_eq_false (fun h => by have := UInt8.lt_iff_toNat_lt.1 h; omega)
/-- The lowest k digits, the first ahead. -/
def lk (m : Nat) : Nat → List UInt8
  | 0 => []
  | k + 1 => Lib.dg m k :: lk m k
theorem dg_lt (m n k : Nat) : decide (Lib.dg m k < Lib.dg n k) = decide (m / 10 ^ k % 10 < n / 10 ^ k % 10) := by
  apply decide_eq_decide.2
  rw [UInt8.lt_iff_toNat_lt, dg_toNat, dg_toNat]; omega
theorem dg_eq (m n k : Nat) : (Lib.dg m k == Lib.dg n k) = decide (m / 10 ^ k % 10 = n / 10 ^ k % 10) := by
  rw [Bool.eq_iff_iff, beq_iff_eq, decide_eq_true_eq, ← UInt8.toNat_inj, dg_toNat, dg_toNat]; omega
theorem less_lk (m n : Nat) (a b : List UInt8) : ∀ k, Op.bytesLess (lk m k ++ a) (lk n k ++ b) = if m % 10 ^ k = n % 10 ^ k then Op.bytesLess a b else decide (m % 10 ^ k < n % 10 ^ k)
  | 0 => by simp [lk, Nat.mod_one]
  | k + 1 => by
    have hm : m % 10 ^ (k + 1) = m % 10 ^ k + 10 ^ k * (m / 10 ^ k % 10) := Nat.mod_pow_succ
    have hn : n % 10 ^ (k + 1) = n % 10 ^ k + 10 ^ k * (n / 10 ^ k % 10) := Nat.mod_pow_succ
    have lm : m % 10 ^ k < 10 ^ k := Nat.mod_lt _ (Nat.pow_pos (by decide))
    have ln : n % 10 ^ k < 10 ^ k := Nat.mod_lt _ (Nat.pow_pos (by decide))
    have e : Op.bytesLess (lk m (k + 1) ++ a) (lk n (k + 1) ++ b) = (decide (Lib.dg m k < Lib.dg n k) || (Lib.dg m k == Lib.dg n k && Op.bytesLess (lk m k ++ a) (lk n k ++ b))) := rfl
    rw [e, less_lk m n a b k, dg_lt, dg_eq, hm, hn]
    generalize m / 10 ^ k % 10 = x
    generalize n / 10 ^ k % 10 = y
    generalize m % 10 ^ k = p at *
    generalize n % 10 ^ k = q at *
    generalize 10 ^ k = t at *
    rcases Nat.lt_trichotomy x y with h | h | h
    · have h2 : t * (x + 1) ≤ t * y := Nat.mul_le_mul_left _ h
      rw [Nat.mul_add, Nat.mul_one] at h2
      rw [decide_eq_true h, Bool.true_or, if_neg (by omega), decide_eq_true (by omega)]
    · subst h
      rw [decide_eq_false (Nat.lt_irrefl _), decide_eq_true rfl, Bool.false_or, Bool.true_and]
      by_cases hp : p = q
      · rw [if_pos hp, if_pos (by rw [hp])]
      · rw [if_neg hp, if_neg (by omega)]
        exact decide_eq_decide.2 (by omega)
    · have h2 : t * (y + 1) ≤ t * x := Nat.mul_le_mul_left _ h
      rw [Nat.mul_add, Nat.mul_one] at h2
      rw [decide_eq_false (by omega), decide_eq_false (by omega), Bool.false_or, Bool.false_and, if_neg (by omega), decide_eq_false (by omega)]
theorem range_lk (n : Nat) : ∀ k, (List.range k).map (fun t => Lib.dg n (k - 1 - t)) = lk n k
  | 0 => rfl
  | k + 1 => by
    rw [List.range_succ_eq_map, List.map_cons, List.map_map]
    unfold lk
    congr 1
    rw [← range_lk n k]
    refine List.map_congr_left fun t ht => ?_
    have := List.mem_range.1 ht
    show Lib.dg n (k + 1 - 1 - (t + 1)) = _
    rw [show k + 1 - 1 - (t + 1) = k - 1 - t by omega]

theorem tokOk_iff {n : Int} (h : tokOk n = true) : ∃ m : Nat, n = m ∧ 1 ≤ m ∧ m < 1000000000000 := by
  unfold tokOk at h
  rw [Bool.and_eq_true, decide_eq_true_eq, decide_eq_true_eq] at h
  exact ⟨n.toNat, by omega, by omega, by omega⟩
theorem tokS_of {m : Nat} (h : tokOk (m : Int) = true) : ∃ d, digO (tok m) = some d ∧ d.size = 2 ∧ tokS m = tok m ++ d := by
  obtain ⟨d, hd, sd⟩ := tok_dig m
  exact ⟨d, hd, sd, by have := (tokS_good h (d := d) hd).1; rwa [Int.toNat_natCast] at this⟩
theorem tok_list (m : Nat) (d : ByteArray) : (tok m ++ d).toList = 80 :: (lk m 12 ++ d.data.toList) := by
  rw [ByteArray.toList_eq, ByteArray.data_append, Array.toList_append]
  unfold tok
  rw [ByteArray.data_append, Array.toList_append]
  show (80 :: ([] ++ (((List.range 12).map fun t => Lib.dg m (11 - t)).toArray).toList)) ++ _ = _
  rw [List.nil_append, List.cons_append]
  congr 2
/-- Tokens sort as numbers do. -/
theorem tok_order {m n : Int} (hm : tokOk m = true) (hn : tokOk n = true) : Op.bytesLess (tokS m).toList (tokS n).toList = decide (m < n) := by
  obtain ⟨a, rfl, a1, a2⟩ := tokOk_iff hm
  obtain ⟨b, rfl, b1, b2⟩ := tokOk_iff hn
  obtain ⟨d, hd, sd, ed⟩ := tokS_of hm
  obtain ⟨f, hf, sf, ef⟩ := tokS_of hn
  rw [ed, ef, tok_list, tok_list]
  have e : ∀ x y, Op.bytesLess (80 :: x) (80 :: y) = Op.bytesLess x y := fun x y => by
    show (decide ((80 : UInt8) < 80) || ((80 : UInt8) == 80 && Op.bytesLess x y)) = _
    rw [decide_eq_false (by decide), Bool.false_or, beq_self_eq_true, Bool.true_and]
  rw [e, less_lk, Nat.mod_eq_of_lt (by omega), Nat.mod_eq_of_lt (by omega)]
  by_cases h : a = b
  · subst h
    obtain rfl : d = f := by rw [hd] at hf; exact Option.some.inj hf
    rw [if_pos rfl, bytesLess_self, decide_eq_false (by omega)]
  · rw [if_neg h]; exact decide_eq_decide.2 (by omega)

theorem tokS_size {n : Int} (h : tokOk n = true) : (tokS n).size = 15 := by
  obtain ⟨a, rfl, a1, a2⟩ := tokOk_iff h
  obtain ⟨d, hd, sd, ed⟩ := tokS_of h
  rw [ed, ByteArray.size_append, tok_size, sd]
theorem allB_of {p : Nat → Bool} {s : ByteArray} : ∀ n, (∀ k, k < n → p (byt s k) = true) → allB p s n = true
  | 0, _ => rfl
  | n + 1, h => by unfold allB; rw [allB_of n (fun k hk => h k (by omega)), h n (by omega)]; rfl
theorem dv_tok {n : Nat} (h : n < 1000000000000) (d : ByteArray) : ∀ k, k ≤ 12 → dv (tok n ++ d) k = n / 10 ^ (12 - k)
  | 0, _ => by show 0 = _; rw [Nat.div_eq_of_lt (by show n < 10 ^ 12; omega)]
  | k + 1, hk => by
    show 10 * dv (tok n ++ d) k + (byt (tok n ++ d) (k + 1) - 48) = _
    rw [dv_tok h d k (by omega), byt_app_left (by rw [tok_size]; omega), byt_tok (by omega), show 12 - k = (11 - k) + 1 by omega, Nat.pow_succ, ← Nat.div_div_eq_div_mul, show 12 - (k + 1) = 11 - k by omega]
    omega
/-- A number comes back from its token. -/
theorem num_tok {n : Int} (h : tokOk n = true) : numE (tokS n) = 0 ∧ (numN (tokS n) : Int) = n := by
  obtain ⟨a, rfl, a1, a2⟩ := tokOk_iff h
  obtain ⟨d, hd, sd, ed⟩ := tokS_of h
  obtain ⟨_, dd⟩ := digO_dig hd
  rw [ed]
  have hs : (tok a ++ d).size = 15 := by rw [ByteArray.size_append, tok_size, sd]
  have h13 : (tok a ++ d).extract 0 13 = tok a := by have := ext_app (a := tok a) (b := d); rwa [tok_size] at this
  have h15 : (tok a ++ d).extract 13 15 = d := by have := ext_app2 (a := tok a) (b := d); rwa [tok_size, hs] at this
  have hb : ∀ k, 1 ≤ k → k < 15 → dig (byt (tok a ++ d) k) = true := by
    intro k k1 k2
    by_cases e : k < 13
    · obtain ⟨i, rfl⟩ : ∃ i, k = i + 1 := ⟨k - 1, by omega⟩
      rw [byt_app_left (by rw [tok_size]; omega), byt_tok (by omega)]; exact dig_mod _
    · rw [byt_app_right (by rw [tok_size]; omega), tok_size]; exact allB_at dd (by omega)
  have hk : numOk (tok a ++ d) = true := by
    unfold numOk
    rw [hs, byt_app_left (by rw [tok_size]; omega), byt_tok0]
    refine Bool.and_eq_true_iff.2 ⟨rfl, ?_⟩
    have z := ext_size (tok a ++ d) 1 15 (by omega)
    refine allB_of _ (fun k hk => ?_)
    rw [byt_extract (by omega) (by omega)]
    exact hb _ (by omega) (by omega)
  have hf : fits (tok a ++ d) = true := by unfold fits; rw [h13, hd, h15]; exact beq_self_eq_true _
  have hv : dv (tok a ++ d) 12 = a := by rw [dv_tok a2 d 12 (Nat.le_refl _)]; simp
  obtain ⟨g1, g2⟩ := numE_good hk hf (by rw [hv]; omega)
  exact ⟨g2, by rw [g1, hv]⟩
theorem dv_div {s : ByteArray} (h : ∀ k, 1 ≤ k → k < 15 → dig (byt s k) = true) : ∀ j, j ≤ 12 → dv s 12 / 10 ^ j = dv s (12 - j)
  | 0, _ => by simp
  | j + 1, hj => by
    rw [Nat.pow_succ, ← Nat.div_div_eq_div_mul, dv_div h j (by omega), show 12 - j = (11 - j) + 1 by omega, show 12 - (j + 1) = 11 - j by omega]
    have := dig_iff (h (11 - j + 1) (by omega) (by omega))
    show (10 * dv s (11 - j) + (byt s (11 - j + 1) - 48)) / 10 = _
    omega
/-- What Number takes is the token of its answer. -/
theorem tok_num {s : ByteArray} (h : numE s = 0) : tokOk (numN s : Int) = true ∧ tokS (numN s : Int) = s := by
  cases hk : numOk s with
  | false => rw [(numE_bad hk).2] at h; cases h
  | true =>
    cases hf : fits s with
    | false => rw [(numE_unfit hk hf).2] at h; cases h
    | true =>
      by_cases h0 : dv s 12 = 0
      · rw [(numE_nought hk hf h0).2] at h; cases h
      · rw [(numE_good hk hf h0).1]
        have hs := (numOk_iff hk).1
        have hb := numOk_digs hk
        have hv := dv_lt12 hs hb (Nat.le_refl 12)
        have ht : tokOk (dv s 12 : Nat) = true := by unfold tokOk; rw [decide_eq_true (by omega), decide_eq_true (by omega)]; rfl
        refine ⟨ht, ?_⟩
        obtain ⟨d, hd, sd, ed⟩ := tokS_of ht
        have z13 := ext_size s 0 13 (by omega)
        have z15 := ext_size s 13 15 (by omega)
        have e13 : tok (dv s 12) = s.extract 0 13 := by
          apply byt_ext
          · rw [tok_size, z13]
          · intro i hi
            rw [tok_size] at hi
            rw [byt_extract (by omega) (by omega), Nat.zero_add]
            rcases Nat.eq_zero_or_pos i with e | e
            · subst e; rw [byt_tok0, (numOk_iff hk).2.1]
            · obtain ⟨k, rfl⟩ : ∃ k, i = k + 1 := ⟨i - 1, by omega⟩
              rw [byt_tok (by omega), dv_div hb (11 - k) (by omega), show 12 - (11 - k) = k + 1 by omega]
              have := dig_iff (hb (k + 1) (by omega) (by omega))
              show 48 + (10 * dv s k + (byt s (k + 1) - 48)) % 10 = _
              omega
        have e15 : d = s.extract 13 15 := by
          unfold fits at hf
          rw [← e13, hd] at hf
          exact toList_inj (by simpa using hf)
        rw [ed, e13, e15]
        apply byt_ext
        · rw [ByteArray.size_append, z13, z15]; omega
        · intro i hi
          rw [ByteArray.size_append, z13, z15] at hi
          by_cases e : i < 13
          · rw [byt_app_left (by omega), byt_extract (by omega) (by omega), Nat.zero_add]
          · rw [byt_app_right (by omega), z13, byt_extract (by omega) (by omega)]; congr 1; omega

/-- Two systems' accounts. -/
theorem sys_cases {k : Int} {s : ByteArray} (h : sys k s ≠ ⟨#[]⟩) : cod s = true ∧ ∃ p, pre k = some p ∧ sys k s = p ++ s := by
  unfold sys at h ⊢
  cases hc : cod s with
  | false => rw [hc] at h; exact absurd rfl h
  | true =>
    rw [hc] at h
    cases hp : pre k with
    | none => rw [hp] at h; exact absurd rfl h
    | some p => exact ⟨rfl, p, rfl, rfl⟩
theorem pre_cases {k : Int} {p : ByteArray} (h : pre k = some p) : (k = 2 ∧ p = { data := #[111, 117, 116, 115, 105, 100, 101, 46] }) ∨ (k = 3 ∧ p = { data := #[115, 117, 115, 112, 101, 110, 115, 101, 46] }) ∨ (k = 4 ∧ p = { data := #[99, 108, 101, 97, 114, 105, 110, 103, 46] }) ∨ (k = 5 ∧ p = { data := #[102, 101, 101, 115, 46] }) := by
  unfold pre at h
  split at h
  · exact .inl ⟨by assumption, (Option.some.inj h).symm⟩
  · split at h
    · exact .inr (.inl ⟨by assumption, (Option.some.inj h).symm⟩)
    · split at h
      · exact .inr (.inr (.inl ⟨by assumption, (Option.some.inj h).symm⟩))
      · split at h
        · exact .inr (.inr (.inr ⟨by assumption, (Option.some.inj h).symm⟩))
        · cases h
theorem app_inj {a b c d : ByteArray} (h : a ++ c = b ++ d) (hs : c.size = d.size) : a = b ∧ c = d := by
  have e : (a ++ c).size = (b ++ d).size := by rw [h]
  rw [ByteArray.size_append, ByteArray.size_append] at e
  have ha := ext_app (a := a) (b := c)
  have hb := ext_app (a := b) (b := d)
  have hc := ext_app2 (a := a) (b := c)
  have hd := ext_app2 (a := b) (b := d)
  rw [h, show a.size = b.size by omega] at ha hc
  exact ⟨ha.symm.trans hb, hc.symm.trans hd⟩
theorem pre_inj {k l : Int} {p : ByteArray} (h : pre k = some p) (h2 : pre l = some p) : k = l := by
  rcases pre_cases h with ⟨a, e⟩ | ⟨a, e⟩ | ⟨a, e⟩ | ⟨a, e⟩ <;> rcases pre_cases h2 with ⟨b, f⟩ | ⟨b, f⟩ | ⟨b, f⟩ | ⟨b, f⟩ <;> first
    | (rw [a, b]; done)
    | (exfalso; rw [e] at f; exact absurd f (by decide))
theorem sys_one {k l : Int} {s t : ByteArray} (h : sys k s ≠ ⟨#[]⟩) (h2 : sys l t ≠ ⟨#[]⟩) : sys k s = sys l t ↔ k = l ∧ s = t := by
  obtain ⟨c1, p, hp, e1⟩ := sys_cases h
  obtain ⟨c2, q, hq, e2⟩ := sys_cases h2
  constructor
  · intro e
    rw [e1, e2] at e
    obtain ⟨e3, e4⟩ := app_inj e (by rw [cod_size c1, cod_size c2])
    exact ⟨pre_inj hp (by rw [e3]; exact hq), e4⟩
  · rintro ⟨rfl, rfl⟩; rfl
theorem sys_form {k : Int} {s : ByteArray} (h : sys k s ≠ ⟨#[]⟩) : chk (sys k s) = 7 := by
  obtain ⟨c1, p, hp, e1⟩ := sys_cases h
  have s3 := cod_size c1
  have hsz : 5 ≤ p.size := by rcases pre_cases hp with ⟨_, e⟩ | ⟨_, e⟩ | ⟨_, e⟩ | ⟨_, e⟩ <;> rw [e] <;> decide
  have h0 : cap (byt p 0) = false := by rcases pre_cases hp with ⟨_, e⟩ | ⟨_, e⟩ | ⟨_, e⟩ | ⟨_, e⟩ <;> rw [e] <;> decide
  have hs : (sys k s).size = p.size + 3 := by rw [e1, ByteArray.size_append, s3]
  refine chk_bad (.inr (.inr (.inl ?_)))
  have z := ext_size (sys k s) 0 2 (by omega)
  refine allB_false (k := 0) (by omega) ?_
  rw [byt_extract (by omega) (by omega), Nat.zero_add, e1, byt_app_left (by omega)]
  exact h0
end Go.Proofs.YtfcalpfpfibbfaaDoor
