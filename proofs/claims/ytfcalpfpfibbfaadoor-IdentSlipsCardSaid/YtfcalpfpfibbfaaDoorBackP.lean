/- IdentBack's plain laws: what Make answers is taken apart again, passes, and is its own normal form; other check digits do not pass; blanks and small letters go. -/
import Derived.Test.YtfcalpfpfibbfaaDoorReadsW
namespace Go.Proofs.YtfcalpfpfibbfaaDoor
open Go.RowKit

theorem cdig_dig {r : Nat} (h : r < 97) : allB dig (cdig r) 2 = true := by
  have h0 : byt (cdig r) 0 = (48 + (98 - (r : Int)) / 10).toNat % 256 := byt_nums (xs := [48 + (98 - (r : Int)) / 10, 48 + (98 - (r : Int)) % 10]) (i := 0) (Nat.zero_lt_succ _)
  have h1 : byt (cdig r) 1 = (48 + (98 - (r : Int)) % 10).toNat % 256 := byt_nums (xs := [48 + (98 - (r : Int)) / 10, 48 + (98 - (r : Int)) % 10]) (i := 1) (by exact Nat.lt_succ_self 1)
  unfold allB allB allB
  rw [h0, h1]
  unfold dig
  simp
  omega
theorem digO_dig {s d : ByteArray} (h : digO s = some d) : d.size = 2 ∧ allB dig d 2 = true := by
  unfold digO at h
  split at h
  · cases h
  · cases hr : restO (zz s) with
    | none => rw [hr] at h; cases h
    | some r =>
      rw [hr] at h
      obtain rfl := Option.some.inj h
      exact ⟨strOfNums_size _, cdig_dig (restO_lt hr)⟩

theorem ext_app {a b : ByteArray} : (a ++ b).extract 0 a.size = a := by
  have hs : (a ++ b).size = a.size + b.size := ByteArray.size_append
  apply byt_ext
  · rw [ext_size _ _ _ (by omega)]; rfl
  · intro i hi
    rw [ext_size _ _ _ (by omega)] at hi
    rw [byt_extract (by omega) hi, Nat.zero_add, byt_app_left (by omega)]
theorem ext_app2 {a b : ByteArray} : (a ++ b).extract a.size (a ++ b).size = b := by
  have hs : (a ++ b).size = a.size + b.size := ByteArray.size_append
  apply byt_ext
  · rw [ext_size _ _ _ (by omega)]; omega
  · intro i hi
    rw [ext_size _ _ _ (by omega)] at hi
    rw [byt_extract (by omega) hi, byt_app_right (by omega)]
    congr 1; omega
theorem three {c d b : ByteArray} (hc : c.size = 2) (hd : d.size = 2) : (c ++ d ++ b).size = 4 + b.size ∧ (c ++ d ++ b).extract 0 2 = c ∧ (c ++ d ++ b).extract 2 4 = d ∧ (c ++ d ++ b).extract 4 (c ++ d ++ b).size = b := by
  have hs : (c ++ d ++ b).size = 4 + b.size := by rw [ByteArray.size_append, ByteArray.size_append]; omega
  have h2 : (c ++ d).size = 4 := by rw [ByteArray.size_append]; omega
  refine ⟨hs, ?_, ?_, ?_⟩
  · apply byt_ext
    · rw [ext_size _ _ _ (by omega)]; omega
    · intro i hi
      rw [ext_size _ _ _ (by omega)] at hi
      rw [byt_extract (by omega) hi, Nat.zero_add, byt_app_left (by omega), byt_app_left (by omega)]
  · apply byt_ext
    · rw [ext_size _ _ _ (by omega)]; omega
    · intro i hi
      rw [ext_size _ _ _ (by omega)] at hi
      rw [byt_extract (by omega) hi, byt_app_left (by omega), byt_app_right (by omega)]
      congr 1; omega
  · have := ext_app2 (a := c ++ d) (b := b)
    rwa [h2] at this

/-- Of a country, digits and a number: Check by its parts. -/
theorem chk_three_parts {c d b : ByteArray} (hc : c.size = 2) (hd : d.size = 2) :
    chk (c ++ d ++ b) = if prt c b = false then 7 else if allB dig d d.size = false then 7 else match digO (b ++ c) with
      | some x => if x.toList == d.toList then 0 else 8
      | none => 8 := by
  obtain ⟨h1, h2, h3, h4⟩ := three (c := c) (d := d) (b := b) hc hd
  unfold chk
  rw [h2, h3, h4, if_neg (by omega)]
  rfl
theorem chk_made {c b d : ByteArray} (hp : prt c b = true) (hd : digO (b ++ c) = some d) : chk (c ++ d ++ b) = 0 := by
  obtain ⟨s2, hdd⟩ := digO_dig hd
  rw [chk_three_parts (prt_size hp).1 s2, if_neg (by rw [hp]; decide), if_neg (by rw [s2, hdd]; decide), hd]
  simp
theorem toList_inj {a b : ByteArray} (h : a.toList = b.toList) : a = b := by
  have e : ∀ x : ByteArray, x.toList = x.data.toList := fun x => ByteArray.toList_eq x
  rw [e, e] at h
  exact ByteArray.ext (Array.toList_inj.1 h)
theorem chk_other {c b d o : ByteArray} (hp : prt c b = true) (hd : digO (b ++ c) = some d) (ho : o.size = 2) (hne : (o.toList == d.toList) = false) : chk (c ++ o ++ b) ≠ 0 := by
  rw [chk_three_parts (prt_size hp).1 ho, if_neg (by rw [hp]; decide)]
  split
  · decide
  · rw [hd]
    simp only
    rw [if_neg]
    · decide
    · intro h
      rw [beq_iff_eq] at h
      rw [h] at hne
      simp at hne

/-- Digits and capitals alone. -/
def good (s : ByteArray) : Prop := ∀ i, i < s.size → alnum (byt s i) = true
theorem alnum_nrm {n : Nat} (h : alnum n = true) : nrm n = [(n : Int)] := by
  unfold alnum cap dig at h
  simp at h
  unfold nrm
  rw [if_neg (by omega), if_neg (by omega)]
theorem small_nrm {n : Nat} (h : cap n = true) : nrm (n + 32) = [(n : Int)] := by
  unfold cap at h
  simp at h
  unfold nrm
  rw [if_neg (by omega), if_pos (by omega)]
  congr 1; omega
theorem nrmL_good {s : ByteArray} (h : good s) {k : Nat} (hk : k < s.size) : nrmL s (k + 1) = nrmL s k ++ [(byt s k : Int)] := by
  show nrmL s k ++ nrm (byt s k) = _
  rw [alnum_nrm (h k hk)]
theorem nrmL_good_length {s : ByteArray} (h : good s) : ∀ k, k ≤ s.size → (nrmL s k).length = k
  | 0, _ => rfl
  | k + 1, hk => by rw [nrmL_good h (by omega), List.length_append, nrmL_good_length h k (by omega)]; rfl
theorem nrmL_good_at {s : ByteArray} (h : good s) : ∀ k, k ≤ s.size → ∀ i (hi : i < (nrmL s k).length), (nrmL s k)[i] = (byt s i : Int)
  | 0, _, i, hi => by simp [nrmL] at hi
  | k + 1, hk, i, hi => by
    have hl := nrmL_good_length h k (by omega)
    rw [nrmL_good_length h _ hk] at hi
    have e := nrmL_good h (show k < s.size by omega)
    rw [show (nrmL s (k + 1))[i] = (nrmL s k ++ [(byt s k : Int)])[i]'(by rw [← e, nrmL_good_length h _ hk]; exact hi) by congr 1]
    by_cases e1 : i < k
    · rw [List.getElem_append_left (by omega)]; exact nrmL_good_at h k (by omega) i _
    · obtain rfl : i = k := by omega
      rw [List.getElem_append_right (by omega)]
      simp [hl]
theorem nums_good {s : ByteArray} (h : good s) : strOfNums (nrmL s s.size) = s := by
  have hl := nrmL_good_length h s.size (Nat.le_refl _)
  apply byt_ext
  · rw [strOfNums_size, hl]
  · intro i hi
    rw [strOfNums_size, hl] at hi
    rw [byt_nums (by rw [hl]; exact hi), nrmL_good_at h _ (Nat.le_refl _)]
    have := byt_lt s i
    omega
theorem nrmS_good {s : ByteArray} (h : good s) : nrmS s = s := nums_good h

theorem nrmL_left {a b : ByteArray} : ∀ k, k ≤ a.size → nrmL (a ++ b) k = nrmL a k
  | 0, _ => rfl
  | k + 1, h => by
    show nrmL (a ++ b) k ++ nrm (byt (a ++ b) k) = nrmL a k ++ nrm (byt a k)
    rw [nrmL_left k (by omega), byt_app_left (by omega)]
theorem nrmL_app {a b : ByteArray} : ∀ k, nrmL (a ++ b) (a.size + k) = nrmL a a.size ++ nrmL b k
  | 0 => by show nrmL (a ++ b) a.size = _; rw [nrmL_left _ (Nat.le_refl _)]; simp [nrmL]
  | k + 1 => by
    show nrmL (a ++ b) (a.size + k) ++ nrm (byt (a ++ b) (a.size + k)) = nrmL a a.size ++ (nrmL b k ++ nrm (byt b k))
    rw [nrmL_app k, byt_app_right (by omega), List.append_assoc, show a.size + k - a.size = k by omega]
/-- What is left of a text that has been put together. -/
def left (s : ByteArray) : List Int := nrmL s s.size
theorem left_app (a b : ByteArray) : left (a ++ b) = left a ++ left b := by
  unfold left
  rw [show (a ++ b).size = a.size + b.size from ByteArray.size_append, nrmL_app]
theorem left_one (x : Int) (h0 : 0 ≤ x) (h1 : x < 256) : left (strOfNums [x]) = nrm x.toNat := by
  show [] ++ nrm (byt (strOfNums [x]) 0) = _
  rw [byt_nums (xs := [x]) (i := 0) (Nat.zero_lt_succ _)]
  simp only [List.nil_append, List.getElem_cons_zero]
  rw [Nat.mod_eq_of_lt (by omega)]
theorem left_blank : left { data := #[32] } = [] := by decide
theorem made_good {c b d : ByteArray} (hp : prt c b = true) (hd : digO (b ++ c) = some d) : good (c ++ d ++ b) := by
  obtain ⟨h1, h2, h3⟩ := prt_size hp
  obtain ⟨h4, h5⟩ := prt_all hp
  obtain ⟨s2, hdd⟩ := digO_dig hd
  have hcd : (c ++ d).size = 4 := by rw [ByteArray.size_append]; omega
  intro i hi
  rw [ByteArray.size_append] at hi
  unfold alnum
  by_cases e1 : i < 4
  · rw [byt_app_left (by omega)]
    by_cases e2 : i < 2
    · rw [byt_app_left (by omega), allB_at h4 (by omega)]; rfl
    · rw [byt_app_right (by omega), allB_at hdd (by omega), Bool.or_true]
  · rw [byt_app_right (by omega)]
    exact allB_at h5 (by omega)
end Go.Proofs.YtfcalpfpfibbfaaDoor
