/- One wrong digit, or two neighbours exchanged: what a text leaves, divided by 97, is another: plain laws. -/
import Derived.Test.YtfcalpfpfibbfaaDoorOrderP
namespace Go.Proofs.YtfcalpfpfibbfaaDoor
open Go.RowKit Go.Sort

/-- The value of a text of digits and capital letters, with a ahead. -/
def vl : List Nat → Nat → Nat
  | [], a => a
  | b :: l, a => vl l (if dig b then 10 * a + (b - 48) else 100 * a + (b - 55))
/-- How many decimal places a text takes. -/
def wd : List Nat → Nat
  | [] => 0
  | b :: l => (if dig b then 1 else 2) + wd l
theorem vl_at : ∀ (l : List Nat) (a : Nat), vl l a = a * 10 ^ wd l + vl l 0
  | [], a => by simp [vl, wd]
  | b :: l, a => by
    unfold vl wd
    rw [vl_at l (if dig b then 10 * a + (b - 48) else 100 * a + (b - 55)), vl_at l (if dig b then 10 * 0 + (b - 48) else 100 * 0 + (b - 55))]
    by_cases h : dig b = true
    · rw [if_pos h, if_pos h, if_pos h, Nat.pow_add, Nat.mul_zero, Nat.zero_add, Nat.pow_one, Nat.add_mul, ← Nat.add_assoc]
      rw [Nat.mul_comm 10 a, Nat.mul_assoc]
    · rw [if_neg h, if_neg h, if_neg h, Nat.pow_add, Nat.mul_zero, Nat.zero_add, Nat.add_mul, ← Nat.add_assoc]
      rw [Nat.mul_comm 100 a, Nat.mul_assoc, show (10 : Nat) ^ 2 = 100 from rfl]
theorem vl_app : ∀ (l r : List Nat) (a : Nat), vl (l ++ r) a = vl r (vl l a)
  | [], _, _ => rfl
  | b :: l, r, a => by rw [List.cons_append]; exact vl_app l r _
theorem wd_app : ∀ (l r : List Nat), wd (l ++ r) = wd l + wd r
  | [], r => by simp [wd]
  | b :: l, r => by
    show (if dig b then 1 else 2) + wd (l ++ r) = (if dig b then 1 else 2) + wd l + wd r
    rw [wd_app l r, Nat.add_assoc]
theorem wd_le : ∀ l : List Nat, wd l ≤ 2 * l.length
  | [] => by simp [wd]
  | b :: l => by
    unfold wd
    have := wd_le l
    rw [List.length_cons]
    split <;> omega
theorem pow_rest : ∀ n, 10 ^ n % 97 ≠ 0
  | 0 => by decide
  | n + 1 => by
    have := pow_rest n
    rw [Nat.pow_succ]
    omega
theorem pow_small : ∀ n, n < 96 → 1 ≤ n → 10 ^ n % 97 ≠ 1 := by decide
theorem vl_dig {x : Nat} (h : dig x = true) (a : Nat) : vl [x] a = 10 * a + (x - 48) := by
  unfold vl; rw [if_pos h]; rfl
theorem dig_two {n : Nat} (h : dig n = true) : 48 ≤ n ∧ n ≤ 57 := by
  unfold dig at h; simpa using h
theorem p97' : ∀ x, x < 97 → ∀ y, y < 97 → x * y % 97 = 0 → x = 0 ∨ y = 0 := by decide +kernel
theorem p97 {x y : Nat} (h : x * y % 97 = 0) : x % 97 = 0 ∨ y % 97 = 0 :=
  p97' _ (Nat.mod_lt _ (by decide)) _ (Nat.mod_lt _ (by decide)) (by rw [← Nat.mul_mod]; exact h)
/-- Two values that leave one rest, apart by a product. -/
theorem apart {u v a b : Nat} (h : u = v + a * b) (ha : a % 97 ≠ 0) (hb : b % 97 ≠ 0) : u % 97 ≠ v % 97 := by
  intro e
  have : a * b % 97 = 0 := by omega
  rcases p97 this with h | h
  · exact ha h
  · exact hb h
theorem one_slip {x y : Nat} (hx : dig x = true) (hy : dig y = true) (hne : x ≠ y) (l r : List Nat) : vl (l ++ x :: r) 0 % 97 ≠ vl (l ++ y :: r) 0 % 97 := by
  obtain ⟨x1, x2⟩ := dig_two hx
  obtain ⟨y1, y2⟩ := dig_two hy
  have e : ∀ z, dig z = true → vl (l ++ z :: r) 0 = (10 * vl l 0 + (z - 48)) * 10 ^ wd r + vl r 0 := by
    intro z hz
    rw [vl_app, ← vl_at]
    show vl r (if dig z then 10 * vl l 0 + (z - 48) else 100 * vl l 0 + (z - 55)) = _
    rw [if_pos hz]
  rw [e x hx, e y hy]
  have hp := pow_rest (wd r)
  generalize 10 ^ wd r = p at *
  generalize vl l 0 = a
  generalize vl r 0 = b
  rcases Nat.lt_or_ge x y with h | h
  · refine (apart (u := (10 * a + (y - 48)) * p + b) (v := (10 * a + (x - 48)) * p + b) (a := y - x) (b := p) ?_ (by omega) hp).symm
    rw [show 10 * a + (y - 48) = 10 * a + (x - 48) + (y - x) by omega, Nat.add_mul]; omega
  · refine apart (u := (10 * a + (x - 48)) * p + b) (v := (10 * a + (y - 48)) * p + b) (a := x - y) (b := p) ?_ (by omega) hp
    rw [show 10 * a + (x - 48) = 10 * a + (y - 48) + (x - y) by omega, Nat.add_mul]; omega
theorem two_slip {x y : Nat} (hx : dig x = true) (hy : dig y = true) (hne : x ≠ y) (l r : List Nat) : vl (l ++ x :: y :: r) 0 % 97 ≠ vl (l ++ y :: x :: r) 0 % 97 := by
  obtain ⟨x1, x2⟩ := dig_two hx
  obtain ⟨y1, y2⟩ := dig_two hy
  have e : ∀ z w, dig z = true → dig w = true → vl (l ++ z :: w :: r) 0 = (100 * vl l 0 + (10 * (z - 48) + (w - 48))) * 10 ^ wd r + vl r 0 := by
    intro z w hz hw
    rw [vl_app, ← vl_at]
    show vl r (if dig w then 10 * (if dig z then 10 * vl l 0 + (z - 48) else 100 * vl l 0 + (z - 55)) + (w - 48) else 100 * (if dig z then 10 * vl l 0 + (z - 48) else 100 * vl l 0 + (z - 55)) + (w - 55)) = _
    rw [if_pos hz, if_pos hw]
    congr 1; omega
  rw [e x y hx hy, e y x hy hx]
  have hp := pow_rest (wd r)
  generalize 10 ^ wd r = p at *
  generalize vl l 0 = a
  generalize vl r 0 = b
  rcases Nat.lt_or_ge x y with h | h
  · refine (apart (u := (100 * a + (10 * (y - 48) + (x - 48))) * p + b) (v := (100 * a + (10 * (x - 48) + (y - 48))) * p + b) (a := 9 * (y - x)) (b := p) ?_ (by omega) hp).symm
    rw [show 100 * a + (10 * (y - 48) + (x - 48)) = 100 * a + (10 * (x - 48) + (y - 48)) + 9 * (y - x) by omega, Nat.add_mul _ (9 * (y - x))]; omega
  · refine apart (u := (100 * a + (10 * (x - 48) + (y - 48))) * p + b) (v := (100 * a + (10 * (y - 48) + (x - 48))) * p + b) (a := 9 * (x - y)) (b := p) ?_ (by omega) hp
    rw [show 100 * a + (10 * (x - 48) + (y - 48)) = 100 * a + (10 * (y - 48) + (x - 48)) + 9 * (x - y) by omega, Nat.add_mul _ (9 * (x - y))]; omega
/-- The last check digit and the first digit of the body, exchanged: the value begins with the one and ends with the other. -/
theorem far_slip {x y : Nat} (hx : dig x = true) (hy : dig y = true) (hne : x ≠ y) (r : List Nat) (hr : r.length ≤ 40) : vl (x :: r ++ [y]) 0 % 97 ≠ vl (y :: r ++ [x]) 0 % 97 := by
  obtain ⟨x1, x2⟩ := dig_two hx
  obtain ⟨y1, y2⟩ := dig_two hy
  have e : ∀ z w, dig z = true → dig w = true → vl (z :: r ++ [w]) 0 = (z - 48) * 10 ^ (wd r + 1) + 10 * vl r 0 + (w - 48) := by
    intro z w hz hw
    rw [vl_app, vl_dig hw]
    show 10 * vl r (if dig z then 10 * 0 + (z - 48) else 100 * 0 + (z - 55)) + (w - 48) = _
    rw [if_pos hz, vl_at, Nat.pow_succ]
    rw [Nat.mul_zero, Nat.zero_add, Nat.mul_add, ← Nat.mul_assoc (z - 48), Nat.mul_comm 10]
  rw [e x y hx hy, e y x hy hx]
  have hl := wd_le r
  have hp := pow_small (wd r + 1) (by omega) (by omega)
  have hpos : 1 ≤ 10 ^ (wd r + 1) := Nat.pow_pos (by decide)
  generalize 10 ^ (wd r + 1) = p at *
  generalize vl r 0 = b
  obtain ⟨q, rfl⟩ : ∃ q, p = q + 1 := ⟨p - 1, by omega⟩
  rcases Nat.lt_or_ge x y with h | h
  · refine (apart (u := (y - 48) * (q + 1) + 10 * b + (x - 48)) (v := (x - 48) * (q + 1) + 10 * b + (y - 48)) (a := y - x) (b := q) ?_ (by omega) (by omega)).symm
    rw [Nat.mul_add, Nat.mul_add, show y - 48 = x - 48 + (y - x) by omega, Nat.add_mul]; omega
  · refine apart (u := (x - 48) * (q + 1) + 10 * b + (y - 48)) (v := (y - 48) * (q + 1) + 10 * b + (x - 48)) (a := x - y) (b := q) ?_ (by omega) (by omega)
    rw [Nat.mul_add, Nat.mul_add, show x - 48 = y - 48 + (x - y) by omega, Nat.add_mul]; omega

/-- n bytes from the place a. -/
def rg (s : ByteArray) (a : Nat) : Nat → List Nat
  | 0 => []
  | n + 1 => byt s a :: rg s (a + 1) n
theorem rg_add (s : ByteArray) : ∀ (m a n : Nat), rg s a (m + n) = rg s a m ++ rg s (a + m) n
  | 0, a, n => by rw [Nat.zero_add]; rfl
  | m + 1, a, n => by
    rw [show m + 1 + n = m + n + 1 by omega]
    show byt s a :: rg s (a + 1) (m + n) = byt s a :: (rg s (a + 1) m ++ rg s (a + (m + 1)) n)
    rw [rg_add s m (a + 1) n, show a + 1 + m = a + (m + 1) by omega]
theorem rg_congr {s t : ByteArray} {c : Nat} : ∀ (n a : Nat), (∀ j, a ≤ j → j < a + n → byt t (c + j) = byt s j) → rg t (c + a) n = rg s a n
  | 0, _, _ => rfl
  | n + 1, a, h => by
    show byt t (c + a) :: rg t (c + a + 1) n = byt s a :: rg s (a + 1) n
    rw [h a (Nat.le_refl _) (by omega), show c + a + 1 = c + (a + 1) by omega, rg_congr n (a + 1) (fun j h1 h2 => h j (by omega) (by omega))]
theorem rg_same {s t : ByteArray} {n a : Nat} (h : ∀ j, a ≤ j → j < a + n → byt t j = byt s j) : rg t a n = rg s a n := by
  have := rg_congr (s := s) (t := t) (c := 0) n a (fun j h1 h2 => by rw [Nat.zero_add]; exact h j h1 h2)
  rwa [Nat.zero_add] at this
theorem rg_length (s : ByteArray) : ∀ n a, (rg s a n).length = n
  | 0, _ => rfl
  | n + 1, a => by show (rg s (a + 1) n).length + 1 = n + 1; rw [rg_length s n]
theorem rg_left {a b : ByteArray} : rg (a ++ b) 0 a.size = rg a 0 a.size := rg_same fun j _ h => byt_app_left (by omega)
theorem rg_right {a b : ByteArray} {n : Nat} : rg (a ++ b) a.size n = rg b 0 n := by
  have := rg_congr (s := b) (t := a ++ b) (c := a.size) n 0 (fun j _ _ => by rw [byt_app_right (by omega), Nat.add_sub_cancel_left])
  rwa [Nat.add_zero] at this
theorem rg_app (a b : ByteArray) : rg (a ++ b) 0 (a ++ b).size = rg a 0 a.size ++ rg b 0 b.size := by
  rw [ByteArray.size_append, rg_add, rg_left, Nat.zero_add, rg_right]
theorem rg_ext {s : ByteArray} {a b : Nat} (hb : b ≤ s.size) : rg (s.extract a b) 0 (s.extract a b).size = rg s a (b - a) := by
  rw [ext_size _ _ _ hb]
  have := rg_congr (s := s.extract a b) (t := s) (c := a) (b - a) 0 (fun j _ h => by rw [byt_extract hb (by omega)])
  rw [Nat.add_zero] at this
  exact this.symm
theorem restK_vl {s : ByteArray} : ∀ k, (∀ i, i < k → alnum (byt s i) = true) → restK s k = some (vl (rg s 0 k) 0 % 97)
  | 0, _ => rfl
  | k + 1, h => by
    have ih := restK_vl k (fun i hi => h i (by omega))
    have ha := h k (by omega)
    have e : vl (rg s 0 (k + 1)) 0 = if dig (byt s k) then 10 * vl (rg s 0 k) 0 + (byt s k - 48) else 100 * vl (rg s 0 k) 0 + (byt s k - 55) := by
      rw [rg_add s k 0 1, vl_app, Nat.zero_add]; rfl
    rw [e]
    unfold restK
    rw [ih]
    simp only []
    by_cases hd : dig (byt s k) = true
    · rw [if_pos hd, if_pos hd]; congr 1; omega
    · have hc : cap (byt s k) = true := by
        unfold alnum at ha
        rcases Bool.or_eq_true _ _ ▸ ha with h | h
        · exact h
        · exact absurd h hd
      rw [if_neg hd, if_neg hd, if_pos hc]
      have : 65 ≤ byt s k := by unfold cap at hc; simp at hc; exact hc.1
      congr 1; omega
theorem good_zz {s : ByteArray} (h : good s) : ∀ i, i < (zz s).size → alnum (byt (zz s) i) = true := by
  intro i hi
  rw [zz_size] at hi
  rcases Nat.lt_or_ge i s.size with h1 | h1
  · rw [byt_zz h1]; exact h i h1
  · rw [byt_zz' h1 hi]; rfl
/-- A text with its check digits behind it leaves 1. -/
theorem digO_vl {s d : ByteArray} (hg : good s) (h : digO s = some d) : vl (rg s 0 s.size ++ rg d 0 2) 0 % 97 = 1 := by
  unfold digO at h
  split at h
  · cases h
  · have hz : restO (zz s) = some (vl (rg (zz s) 0 (zz s).size) 0 % 97) := by
      unfold restO
      rw [if_neg (by rw [zz_size]; omega)]
      exact restK_vl _ (good_zz hg)
    rw [hz] at h
    obtain rfl := Option.some.inj h
    have e : vl (rg (zz s) 0 (zz s).size) 0 = 100 * vl (rg s 0 s.size) 0 := by
      unfold zz
      rw [rg_app, vl_app]
      generalize vl (rg s 0 s.size) 0 = V
      show vl [48, 48] V = _
      unfold vl vl vl
      rw [if_pos (by rfl), if_pos (by rfl)]
      omega
    rw [e]
    have hr : 100 * vl (rg s 0 s.size) 0 % 97 < 97 := Nat.mod_lt _ (by decide)
    have hV : 100 * vl (rg s 0 s.size) 0 % 97 = 100 * vl (rg s 0 s.size) 0 % 97 := rfl
    generalize hR : 100 * vl (rg s 0 s.size) 0 % 97 = r at *
    rw [vl_app]
    generalize vl (rg s 0 s.size) 0 = V at *
    have h0 : byt (cdig r) 0 = 48 + (98 - r) / 10 := by
      rw [show byt (cdig r) 0 = (48 + (98 - (r : Int)) / 10).toNat % 256 from byt_nums (xs := [48 + (98 - (r : Int)) / 10, 48 + (98 - (r : Int)) % 10]) (i := 0) (Nat.zero_lt_succ _), show (98 - (r : Int)) = ((98 - r : Nat) : Int) by omega]
      omega
    have h1 : byt (cdig r) 1 = 48 + (98 - r) % 10 := by
      rw [show byt (cdig r) 1 = (48 + (98 - (r : Int)) % 10).toNat % 256 from byt_nums (xs := [48 + (98 - (r : Int)) / 10, 48 + (98 - (r : Int)) % 10]) (i := 1) (by exact Nat.lt_succ_self 1), show (98 - (r : Int)) = ((98 - r : Nat) : Int) by omega]
      omega
    show vl [byt (cdig r) 0, byt (cdig r) 1] V % 97 = 1
    rw [h0, h1]
    have d0 : dig (48 + (98 - r) / 10) = true := by unfold dig; simp; omega
    have d1 : dig (48 + (98 - r) % 10) = true := by unfold dig; simp; omega
    unfold vl vl vl
    rw [if_pos d0, if_pos d1]
    omega

/-- t is s with one digit made another one, or with two neighbours exchanged. -/
def Slip (s t : ByteArray) : Prop := t.size = s.size ∧ ∃ i, i < s.size ∧ dig (byt s i) = true ∧
  ((dig (byt t i) = true ∧ byt t i ≠ byt s i ∧ ∀ j, j ≠ i → byt t j = byt s j) ∨
   (i + 1 < s.size ∧ dig (byt s (i + 1)) = true ∧ byt s i ≠ byt s (i + 1) ∧ byt t i = byt s (i + 1) ∧ byt t (i + 1) = byt s i ∧ ∀ j, j ≠ i → j ≠ i + 1 → byt t j = byt s j))

/-- One slip in a piece of a text. -/
theorem one_in {s t : ByteArray} {a n i : Nat} (h1 : a ≤ i) (h2 : i < a + n) (hs : dig (byt s i) = true) (ht : dig (byt t i) = true) (hne : byt t i ≠ byt s i) (hj : ∀ j, j ≠ i → byt t j = byt s j) (l r : List Nat) :
    vl (l ++ rg t a n ++ r) 0 % 97 ≠ vl (l ++ rg s a n ++ r) 0 % 97 := by
  have e : ∀ u : ByteArray, l ++ rg u a n ++ r = (l ++ rg u a (i - a)) ++ byt u i :: (rg u (i + 1) (n - (i - a) - 1) ++ r) := by
    intro u
    conv => lhs; rw [show n = (i - a) + ((n - (i - a) - 1) + 1) by omega, rg_add, show a + (i - a) = i by omega]
    show l ++ (rg u a (i - a) ++ byt u i :: rg u (i + 1) (n - (i - a) - 1)) ++ r = _
    simp
  rw [e t, e s, rg_same (s := s) (t := t) (n := i - a) (fun j _ _ => hj j (by omega)), rg_same (s := s) (t := t) (a := i + 1) (fun j _ _ => hj j (by omega))]
  exact one_slip ht hs hne _ _
theorem two_in {s t : ByteArray} {a n i : Nat} (h1 : a ≤ i) (h2 : i + 1 < a + n) (hs : dig (byt s i) = true) (hs2 : dig (byt s (i + 1)) = true) (hne : byt s i ≠ byt s (i + 1)) (ht : byt t i = byt s (i + 1)) (ht2 : byt t (i + 1) = byt s i) (hj : ∀ j, j ≠ i → j ≠ i + 1 → byt t j = byt s j) (l r : List Nat) :
    vl (l ++ rg t a n ++ r) 0 % 97 ≠ vl (l ++ rg s a n ++ r) 0 % 97 := by
  have e : ∀ u : ByteArray, l ++ rg u a n ++ r = (l ++ rg u a (i - a)) ++ byt u i :: byt u (i + 1) :: (rg u (i + 2) (n - (i - a) - 2) ++ r) := by
    intro u
    conv => lhs; rw [show n = (i - a) + ((n - (i - a) - 2) + 1 + 1) by omega, rg_add, show a + (i - a) = i by omega]
    show l ++ (rg u a (i - a) ++ byt u i :: byt u (i + 1) :: rg u (i + 2) (n - (i - a) - 2)) ++ r = _
    simp
  rw [e t, e s, rg_same (s := s) (t := t) (n := i - a) (fun j _ _ => hj j (by omega) (by omega)), rg_same (s := s) (t := t) (a := i + 2) (fun j _ _ => hj j (by omega) (by omega)), ht, ht2]
  exact two_slip hs2 hs (Ne.symm hne) _ _

/-- A token's value with its digits: 1 where it fits. -/
theorem fits_vl {s : ByteArray} (h : numOk s = true) (hf : fits s = true) : vl (rg s 0 15) 0 % 97 = 1 := by
  obtain ⟨h15, h80, hd⟩ := numOk_iff h
  unfold fits at hf
  split at hf
  · rename_i d hd2
    have hg : good (s.extract 0 13) := by
      intro i hi
      rw [ext_size _ _ _ (by omega)] at hi
      rw [byt_extract (by omega) (by omega), Nat.zero_add]
      rcases Nat.eq_zero_or_pos i with e | e
      · rw [e, h80]; rfl
      · unfold alnum; rw [numOk_digs h i e (by omega), Bool.or_true]
    have hv := digO_vl hg hd2
    have ed : d = s.extract 13 15 := toList_inj (eq_of_beq hf)
    have z : (s.extract 13 15).size = 2 := ext_size _ _ _ (by omega)
    rw [ed, rg_ext (by omega)] at hv
    have := rg_ext (s := s) (a := 13) (b := 15) (by omega)
    rw [z] at this
    rw [this] at hv
    rwa [show (15 : Nat) = 13 + 2 from rfl, rg_add]
  · cases hf
theorem num_slip {s t : ByteArray} (hs : numOk s = true) (hf : fits s = true) (h : Slip s t) : numE t ≠ 0 := by
  have hv := fits_vl hs hf
  obtain ⟨h15, _, _⟩ := numOk_iff hs
  obtain ⟨hz, i, hi, hd, hc⟩ := h
  intro h0
  have ht : numOk t = true := by
    cases e : numOk t with
    | true => rfl
    | false => rw [(numE_bad e).2] at h0; cases h0
  have hft : fits t = true := by
    cases e : fits t with
    | true => rfl
    | false => rw [(numE_unfit ht e).2] at h0; cases h0
  have hw := fits_vl ht hft
  have ne : vl (rg t 0 15) 0 % 97 ≠ vl (rg s 0 15) 0 % 97 := by
    rcases hc with ⟨a, b, c⟩ | ⟨a, b, c, d, e, f⟩
    · have := one_in (a := 0) (n := 15) (Nat.zero_le i) (by omega) hd a b c [] []
      simpa using this
    · have := two_in (a := 0) (n := 15) (Nat.zero_le i) (by omega) hd b c d e f [] []
      simpa using this
  rw [hv, hw] at ne
  exact ne rfl

/-- An account number's value, turned round: 1 where it passes. -/
def turn (s : ByteArray) : List Nat := rg s 4 (s.size - 4) ++ rg s 0 2 ++ rg s 2 2
theorem chk_vl {s : ByteArray} (h : chk s = 0) : 5 ≤ s.size ∧ s.size ≤ 34 ∧ (∀ i, i < 2 → cap (byt s i) = true) ∧ (∀ i, 2 ≤ i → i < 4 → dig (byt s i) = true) ∧ vl (turn s) 0 % 97 = 1 := by
  have nb : ∀ _ : s.size < 5 ∨ 34 < s.size ∨ allB cap (s.extract 0 2) (s.extract 0 2).size = false ∨ allB dig (s.extract 2 4) (s.extract 2 4).size = false ∨ allB alnum (s.extract 4 s.size) (s.extract 4 s.size).size = false, False := fun h2 => absurd (h.symm.trans (chk_bad (s := s) h2)) (by decide)
  have h5 : 5 ≤ s.size := by
    rcases Nat.lt_or_ge s.size 5 with h1 | h1
    · exact absurd (Or.inl h1) nb
    · exact h1
  have h34 : s.size ≤ 34 := by
    rcases Nat.lt_or_ge 34 s.size with h1 | h1
    · exact absurd (Or.inr (Or.inl h1)) nb
    · exact h1
  have h1 : allB cap (s.extract 0 2) (s.extract 0 2).size = true := by
    cases e : allB cap (s.extract 0 2) (s.extract 0 2).size with
    | true => rfl
    | false => exact absurd (Or.inr (Or.inr (Or.inl e))) nb
  have h2 : allB dig (s.extract 2 4) (s.extract 2 4).size = true := by
    cases e : allB dig (s.extract 2 4) (s.extract 2 4).size with
    | true => rfl
    | false => exact absurd (Or.inr (Or.inr (Or.inr (Or.inl e)))) nb
  have h3 : allB alnum (s.extract 4 s.size) (s.extract 4 s.size).size = true := by
    cases e : allB alnum (s.extract 4 s.size) (s.extract 4 s.size).size with
    | true => rfl
    | false => exact absurd (Or.inr (Or.inr (Or.inr (Or.inr e)))) nb
  obtain ⟨d, hd, s4, hc⟩ := chk_good h5 h34 h1 h2 h3
  have z0 : (s.extract 0 2).size = 2 := ext_size _ _ _ (by omega)
  have z2 : (s.extract 2 4).size = 2 := ext_size _ _ _ (by omega)
  have z4 : (s.extract 4 s.size).size = s.size - 4 := ext_size _ _ _ (by omega)
  have c0 : ∀ i, i < 2 → cap (byt s i) = true := by
    intro i hi
    have := allB_at h1 (k := i) (by omega)
    rwa [byt_extract (by omega) (by omega), Nat.zero_add] at this
  have c2 : ∀ i, 2 ≤ i → i < 4 → dig (byt s i) = true := by
    intro i hi h4
    have := allB_at h2 (k := i - 2) (by omega)
    rwa [byt_extract (by omega) (by omega), show 2 + (i - 2) = i by omega] at this
  refine ⟨h5, h34, c0, c2, ?_⟩
  have hg : good (s.extract 4 s.size ++ s.extract 0 2) := by
    intro i hi
    rw [ByteArray.size_append] at hi
    rcases Nat.lt_or_ge i (s.extract 4 s.size).size with e | e
    · rw [byt_app_left e]; exact allB_at h3 e
    · rw [byt_app_right e]; unfold alnum; rw [allB_at h1 (by omega)]; rfl
  have ed : d = s.extract 2 4 := by
    rw [h] at hc
    split at hc
    · rename_i e; exact toList_inj (eq_of_beq e)
    · cases hc
  have hv := digO_vl hg hd
  have r2 := rg_ext (s := s) (a := 2) (b := 4) (by omega)
  rw [z2] at r2
  rw [rg_app, rg_ext (Nat.le_refl _), rg_ext (by omega), ed, r2] at hv
  exact hv
theorem chk_slip {s t : ByteArray} (hs : chk s = 0) (h : Slip s t) : chk t ≠ 0 := by
  intro h0
  obtain ⟨h5, h34, hc0, hc2, hv⟩ := chk_vl hs
  obtain ⟨_, _, _, _, hw⟩ := chk_vl h0
  obtain ⟨hz, i, hi, hd, hc⟩ := h
  have i2 : 2 ≤ i := by
    rcases Nat.lt_or_ge i 2 with e | e
    · have := hc0 i e
      have d2 := dig_two hd
      unfold cap at this
      simp at this
      omega
    · exact e
  have ne : vl (turn t) 0 % 97 ≠ vl (turn s) 0 % 97 := by
    unfold turn
    rw [hz]
    rcases hc with ⟨a, b, c⟩ | ⟨a, b, c, d, e, f⟩
    · rw [rg_same (s := s) (t := t) (a := 0) (n := 2) (fun j _ _ => c j (by omega))]
      rcases Nat.lt_or_ge i 4 with h4 | h4
      · rw [rg_same (s := s) (t := t) (a := 4) (fun j _ _ => c j (by omega))]
        have := one_in (a := 2) (n := 2) i2 (by omega) hd a b c (rg s 4 (s.size - 4) ++ rg s 0 2) []
        simpa using this
      · rw [rg_same (s := s) (t := t) (a := 2) (n := 2) (fun j _ _ => c j (by omega))]
        have := one_in (a := 4) (n := s.size - 4) h4 (by omega) hd a b c [] (rg s 0 2 ++ rg s 2 2)
        simpa using this
    · rw [rg_same (s := s) (t := t) (a := 0) (n := 2) (fun j _ _ => f j (by omega) (by omega))]
      rcases Nat.lt_trichotomy i 3 with h4 | h4 | h4
      · rw [rg_same (s := s) (t := t) (a := 4) (fun j _ _ => f j (by omega) (by omega))]
        have := two_in (a := 2) (n := 2) i2 (by omega) hd b c d e f (rg s 4 (s.size - 4) ++ rg s 0 2) []
        simpa using this
      · subst h4
        have e4 : ∀ u : ByteArray, rg u 4 (s.size - 4) ++ rg u 0 2 ++ rg u 2 2 = byt u 4 :: (rg u 5 (s.size - 5) ++ rg u 0 2 ++ [byt u 2]) ++ [byt u 3] := by
          intro u
          rw [show s.size - 4 = s.size - 5 + 1 by omega]
          show byt u 4 :: rg u 5 (s.size - 5) ++ rg u 0 2 ++ [byt u 2, byt u 3] = _
          simp
        have := rg_same (s := s) (t := t) (a := 0) (n := 2) (fun j _ _ => f j (by omega) (by omega))
        conv => lhs; rw [← this]
        rw [e4 t, e4 s, this, rg_same (s := s) (t := t) (a := 5) (fun j _ _ => f j (by omega) (by omega)), d, e, f 2 (by omega) (by omega)]
        refine far_slip (hd) b c _ ?_
        rw [List.length_append, List.length_append, rg_length, rg_length]
        simp; omega
      · rw [rg_same (s := s) (t := t) (a := 2) (n := 2) (fun j _ _ => f j (by omega) (by omega))]
        have := two_in (a := 4) (n := s.size - 4) h4 (by omega) hd b c d e f [] (rg s 0 2 ++ rg s 2 2)
        simpa using this
  rw [hv, hw] at ne
  exact ne rfl
end Go.Proofs.YtfcalpfpfibbfaaDoor
