/- What a reading has taken is, written again, just the bytes between the two places: plain laws. -/
import Derived.Test.YtnodjcapclkmhaaDoorSame
namespace Go.Proofs.YtnodjcapclkmhaaDoor
open Go.RowKit

/-- n bytes from the place a, as numbers. -/
def rng (s : ByteArray) (a : Nat) : Nat → List Int
  | 0 => []
  | n + 1 => (byt s a : Int) :: rng s (a + 1) n
theorem rng_length (s : ByteArray) : ∀ n a, (rng s a n).length = n
  | 0, _ => rfl
  | n + 1, a => by show (rng s (a + 1) n).length + 1 = n + 1; rw [rng_length s n]
theorem rng_add (s : ByteArray) : ∀ (m a n : Nat), rng s a (m + n) = rng s a m ++ rng s (a + m) n
  | 0, a, n => by rw [Nat.zero_add]; rfl
  | m + 1, a, n => by
    rw [show m + 1 + n = m + n + 1 by omega]
    show (byt s a : Int) :: rng s (a + 1) (m + n) = (byt s a : Int) :: (rng s (a + 1) m ++ rng s (a + (m + 1)) n)
    rw [rng_add s m (a + 1) n, show a + 1 + m = a + (m + 1) by omega]
theorem rng_at (s : ByteArray) : ∀ n a i (h : i < (rng s a n).length), (rng s a n)[i] = (byt s (a + i) : Int)
  | 0, a, i, h => absurd h (Nat.not_lt_zero _)
  | n + 1, a, i, h => by
    cases i with
    | zero => rfl
    | succ i =>
      have hl : i < (rng s (a + 1) n).length := by rw [rng_length]; rw [rng_length] at h; omega
      have := rng_at s n (a + 1) i hl
      show (rng s (a + 1) n)[i]'hl = _
      rw [this, show a + 1 + i = a + (i + 1) by omega]
theorem byt_eq {s : ByteArray} {i : Nat} (h : i < s.size) : byt s i = s[i].toNat := by unfold byt; rw [dif_pos h]
theorem nums_at (s : ByteArray) {i : Nat} (h : i < (nums s).length) : (nums s)[i] = (byt s i : Int) := by
  have hs : i < s.size := by rwa [nums_length] at h
  rw [byt_eq hs]
  simp only [nums, List.getElem_map]
  rfl
theorem nums_rng (s : ByteArray) : nums s = rng s 0 s.size := by
  apply List.ext_getElem
  · rw [nums_length, rng_length]
  · intro i h1 h2
    rw [nums_at, rng_at, Nat.zero_add]
theorem ext_size (s : ByteArray) (a b : Nat) (h : b ≤ s.size) : (s.extract a b).size = b - a := by
  rw [ByteArray.size_extract, Nat.min_eq_left h]
theorem byt_extract {s : ByteArray} {a b i : Nat} (hb : b ≤ s.size) (hi : i < b - a) : byt (s.extract a b) i = byt s (a + i) := by
  have h1 : i < (s.extract a b).size := by rw [ext_size s a b hb]; exact hi
  rw [byt_eq h1, byt_eq (show a + i < s.size by omega)]
  congr 1
  exact ByteArray.getElem_extract h1
theorem nums_ext {s : ByteArray} {a b : Nat} (hb : b ≤ s.size) : nums (s.extract a b) = rng s a (b - a) := by
  apply List.ext_getElem
  · rw [nums_length, rng_length, ext_size _ _ _ hb]
  · intro i h1 h2
    rw [nums_at, rng_at, byt_extract hb (by rwa [rng_length] at h2)]
theorem str_rng {s : ByteArray} {a b : Nat} (hb : b ≤ s.size) : strOfNums (rng s a (b - a)) = s.extract a b := by rw [← nums_ext hb, str_nums]

theorem uG_form {s : ByteArray} {p : Nat} : ∀ (n i x : Nat), n = s.size - (p + i) → ∀ y q, uG s p i x = .ok (y, q) →
    ∃ z, y = x + z * 2 ^ (7 * i) ∧ p + i < q ∧ q ≤ s.size ∧ uvL z = rng s (p + i) (q - (p + i)) ∧ (0 < i → z ≠ 0) := by
  intro n
  induction n with
  | zero =>
    intro i x hn y q h
    rw [uG, dif_neg (by omega)] at h
    cases h
  | succ n ih =>
    intro i x hn y q h
    have hlt : p + i < s.size := by omega
    rw [uG_at s p i x hlt] at h
    have hb := byt_lt s (p + i)
    split at h
    · cases h
    · by_cases h7 : byt s (p + i) < 128
      · rw [if_pos h7] at h
        split at h
        · cases h
        · rename_i h0
          obtain ⟨rfl, rfl⟩ := Prod.mk.inj (Except.ok.inj h)
          refine ⟨byt s (p + i), by rw [Nat.mod_eq_of_lt h7], by omega, by omega, ?_, fun hi e => h0 ⟨e, hi⟩⟩
          rw [uvL_last h7, show p + i + 1 - (p + i) = 0 + 1 by omega]
          rfl
      · rw [if_neg h7] at h
        obtain ⟨z, h1, h2, h3, h4, h5⟩ := ih (i + 1) _ (by omega) y q h
        have hz := h5 (by omega)
        have e128 : byt s (p + i) % 128 + 128 = byt s (p + i) := by omega
        refine ⟨byt s (p + i) % 128 + 128 * z, ?_, by omega, h3, ?_, fun _ => by omega⟩
        · rw [h1, Nat.add_mul, show 7 * (i + 1) = 7 * i + 7 by omega, Nat.pow_add, show (2 : Nat) ^ 7 = 128 from rfl, Nat.add_assoc]
          congr 2
          rw [Nat.mul_comm (2 ^ (7 * i)) 128, ← Nat.mul_assoc, Nat.mul_comm z 128]
        · rw [uvL_more (by omega), show q - (p + i) = q - (p + (i + 1)) + 1 by omega]
          show _ = (byt s (p + i) : Int) :: rng s (p + i + 1) (q - (p + (i + 1)))
          rw [show p + i + 1 = p + (i + 1) by omega, ← h4]
          congr 1
          · rw [show (byt s (p + i) % 128 + 128 * z) % 128 + 128 = byt s (p + i) by omega]
          · rw [show (byt s (p + i) % 128 + 128 * z) / 128 = z by omega]
theorem uG_back {s : ByteArray} {p y q : Nat} (h : uG s p 0 0 = .ok (y, q)) : uvL y = rng s p (q - p) := by
  obtain ⟨z, h1, _, _, h4, _⟩ := uG_form _ 0 0 rfl y q h
  rw [h1, show 0 + z * 2 ^ (7 * 0) = z by simp]
  exact h4
theorem low_form {s : ByteArray} : ∀ (n p : Nat), lowL (lowV s p n) n = rng s p n := by
  have hd : ∀ (k p : Nat), lowV s p (k + 1) = byt s p + 256 * lowV s (p + 1) k := by
    intro k
    induction k with
    | zero => intro p; simp [lowV]
    | succ k ih =>
      intro p
      have e1 : lowV s p (k + 2) = lowV s p (k + 1) + byt s (p + (k + 1)) * 2 ^ (8 * (k + 1)) := rfl
      have e2 : lowV s (p + 1) (k + 1) = lowV s (p + 1) k + byt s (p + 1 + k) * 2 ^ (8 * k) := rfl
      rw [e1, ih p, e2, show p + 1 + k = p + (k + 1) by omega, show 8 * (k + 1) = 8 * k + 8 by omega, Nat.pow_add, show (2 : Nat) ^ 8 = 256 from rfl, Nat.mul_add, ← Nat.mul_assoc, Nat.mul_comm 256 (byt s (p + (k + 1)) * 2 ^ (8 * k))]
      omega
  intro n
  induction n with
  | zero => intro p; rfl
  | succ n ih =>
    intro p
    have hb := byt_lt s p
    unfold lowL rng
    rw [hd n p, show (byt s p + 256 * lowV s (p + 1) n) % 256 = byt s p by omega, show (byt s p + 256 * lowV s (p + 1) n) / 256 = lowV s (p + 1) n by omega, ih]
theorem lowG_back {s : ByteArray} {p n x q : Nat} (h : lowG s p n = .ok (x, q)) : lowL x n = rng s p (q - p) := by
  unfold lowG at h; split at h
  · cases h
  · obtain ⟨rfl, rfl⟩ := Prod.mk.inj (Except.ok.inj h)
    rw [Nat.add_sub_cancel_left]
    exact low_form n p
theorem fG_back {s : ByteArray} {p x q : Nat} (h : fG s p = .ok (x, q)) : lowL (fbits x) 4 = rng s p (q - p) ∧ x < 4294967296 ∧ p < q ∧ q ≤ s.size := by
  unfold fG at h
  cases hu : lowG s p 4 with
  | error e => rw [hu] at h; cases h
  | ok y =>
    obtain ⟨x', q'⟩ := y
    rw [hu] at h
    simp only [] at h
    split at h
    · cases h
    · rename_i hn
      obtain ⟨rfl, rfl⟩ := Prod.mk.inj (Except.ok.inj h)
      have hx := lowG_ok hu
      refine ⟨?_, hx.1, by omega, by omega⟩
      have : fbits x' = x' := by
        unfold fbits
        split
        · rename_i h1
          rcases Nat.decEq x' 2143289344 with h2 | h2
          · exact absurd ⟨h1, h2⟩ hn
          · exact h2.symm
        · rfl
      rw [this]
      exact lowG_back hu
theorem tG_back {s x : ByteArray} {p q : Nat} {m : Int} (h : tG s p m = .ok (x, q)) : textL x = rng s p (q - p) ∧ x.size ≤ s.size := by
  unfold tG at h
  cases hu : upG s p m with
  | error e' => rw [hu] at h; cases h
  | ok y =>
    obtain ⟨n, r⟩ := y
    obtain ⟨_, h1, h2, hg⟩ := upG_ok hu
    rw [hu] at h
    simp only [] at h
    split at h
    · cases h
    · obtain ⟨rfl, rfl⟩ := Prod.mk.inj (Except.ok.inj h)
      have hz : (s.extract r (r + n)).size = n := by rw [ext_size _ _ _ (by omega)]; omega
      refine ⟨?_, by omega⟩
      unfold textL
      rw [hz, uG_back hg, nums_ext (by omega), show r + n - p = (r - p) + n by omega, rng_add, show p + (r - p) = r by omega, show r + n - r = n by omega]
def tsLL : List ByteArray → List Int
  | [] => []
  | t :: l => textL t ++ tsLL l
theorem tsLL_app (a b : List ByteArray) : tsLL (a ++ b) = tsLL a ++ tsLL b := by
  induction a with
  | nil => rfl
  | cons t a ih => show textL t ++ tsLL (a ++ b) = textL t ++ tsLL a ++ tsLL b; rw [ih, List.append_assoc]
theorem lsA_back {s : ByteArray} {m : Int} : ∀ (n q : Nat) (L L' : List ByteArray) (r : Nat), lsA s m n q L = .ok (L', r) → q ≤ s.size → ∃ M, L' = L ++ M ∧ M.length = n ∧ q ≤ r ∧ r ≤ s.size ∧ tsLL M = rng s q (r - q) := by
  intro n
  induction n with
  | zero =>
    intro q L L' r h hq
    obtain ⟨rfl, rfl⟩ := Prod.mk.inj (Except.ok.inj (show Except.ok (L, q) = _ from h))
    exact ⟨[], by simp, rfl, Nat.le_refl _, hq, by rw [Nat.sub_self]; rfl⟩
  | succ n ih =>
    intro q L L' r h hq
    cases ht : tG s q m with
    | error e => rw [lsA_err ht] at h; cases h
    | ok y =>
      obtain ⟨x, q'⟩ := y
      rw [lsA_ok ht] at h
      obtain ⟨h1, h2⟩ := tG_ok ht
      obtain ⟨M, e, hl, h3, h4, h5⟩ := ih q' _ L' r h h2
      refine ⟨x :: M, by rw [e, List.append_assoc]; rfl, by rw [List.length_cons, hl], by omega, h4, ?_⟩
      show textL x ++ tsLL M = _
      rw [(tG_back ht).1, h5, show r - q = (q' - q) + (r - q') by omega, rng_add, show q + (q' - q) = q' by omega]
theorem xsG_back {s : ByteArray} {p q : Nat} {c m : Int} {L : List ByteArray} (h : xsG s p c m = .ok (L, q)) : uvL L.length ++ tsLL L = rng s p (q - p) ∧ p < q ∧ q ≤ s.size := by
  unfold xsG at h
  cases hu : upG s p c with
  | error e' => rw [hu] at h; cases h
  | ok y =>
    obtain ⟨n, r⟩ := y
    obtain ⟨_, h1, h2, hg⟩ := upG_ok hu
    rw [hu] at h
    simp only [] at h
    obtain ⟨M, e, hl, h3, h4, h5⟩ := lsA_back n r [] L q h h2
    rw [List.nil_append] at e
    subst e
    refine ⟨?_, by omega, h4⟩
    rw [hl, uG_back hg, h5, show q - p = (r - p) + (q - r) by omega, rng_add, show p + (r - p) = r by omega]
/-- A list as a function of the place. -/
def lf (L : List ByteArray) : Nat → ByteArray := fun i => L.getD i ⟨#[]⟩
theorem tsL_lf (L : List ByteArray) : tsL (lf L) L.length = tsLL L := by
  have : ∀ n, n ≤ L.length → tsL (lf L) n = tsLL (L.take n) := by
    intro n
    induction n with
    | zero => intro _; rfl
    | succ n ih =>
      intro h
      show tsL (lf L) n ++ textL (lf L n) = _
      rw [ih (by omega), List.take_succ_eq_append_getElem (by omega), tsLL_app]
      congr 1
      show _ = textL _ ++ []
      rw [List.append_nil]
      unfold lf
      rw [List.getD_eq_getElem?_getD, List.getElem?_eq_getElem (by omega)]
      rfl
  rw [this _ (Nat.le_refl _), List.take_length]
theorem zig_unz (x : Nat) : zig (unz x) = x := by
  unfold zig unz
  by_cases h : x % 2 = 1
  · rw [if_pos h, if_pos (by omega)]; omega
  · rw [if_neg h, if_neg (by omega)]; omega
theorem unz_zig (x : Int) : unz (zig x) = x := by
  unfold zig unz
  by_cases h : x < 0
  · rw [if_pos h, if_pos (by omega)]; omega
  · rw [if_neg h, if_neg (by omega)]; omega
theorem unz_range {x : Nat} (hx : x < 18446744073709551616) : -9223372036854775808 ≤ unz x ∧ unz x ≤ 9223372036854775807 := by
  unfold unz; split <;> omega
end Go.Proofs.YtnodjcapclkmhaaDoor
