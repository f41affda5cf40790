/- Strings by their bytes: plain laws. -/
import Derived.Test.YtfcalpfpfibbfaaDoorNormal
import Derived.Lib.Repeat
namespace Go.Proofs.YtfcalpfpfibbfaaDoor
open Go.RowKit

theorem byt_eq {s : ByteArray} {i : Nat} (h : i < s.size) : byt s i = s[i].toNat := by unfold byt; rw [dif_pos h]
/-- Two strings of one length and of the same bytes are one. -/
theorem byt_ext {a b : ByteArray} (hs : a.size = b.size) (h : ∀ i, i < a.size → byt a i = byt b i) : a = b := by
  apply ByteArray.ext
  apply Array.ext
  · exact hs
  · intro i h1 h2
    have := h i h1
    rw [byt_eq (show i < a.size from h1), byt_eq (show i < b.size from h2)] at this
    exact UInt8.toNat_inj.1 this
theorem byt_extract {s : ByteArray} {a b i : Nat} (hb : b ≤ s.size) (hi : i < b - a) : byt (s.extract a b) i = byt s (a + i) := by
  have h1 : i < (s.extract a b).size := by rw [ext_size s a b hb]; exact hi
  rw [byt_eq h1, byt_eq (show a + i < s.size by omega)]
  congr 1
  exact ByteArray.getElem_extract h1
theorem byt_nums {xs : List Int} {i : Nat} (hi : i < xs.length) : byt (strOfNums xs) i = (xs[i].toNat % 256) := by
  have h1 : i < (strOfNums xs).size := by rw [strOfNums_size]; exact hi
  rw [byt_eq h1]
  have : (strOfNums xs)[i] = UInt8.ofNat xs[i].toNat := by
    show (strOfNums xs).data[i] = _
    simp [strOfNums]
  rw [this]
  exact UInt8.toNat_ofNat'
theorem byt_list {l : List UInt8} {i : Nat} (hi : i < l.length) : byt ⟨l.toArray⟩ i = l[i].toNat := by
  have h1 : i < (⟨l.toArray⟩ : ByteArray).size := by simpa [ByteArray.size] using hi
  rw [byt_eq h1]
  show ((⟨l.toArray⟩ : ByteArray).data[i]).toNat = _
  simp
theorem size_list (l : List UInt8) : (⟨l.toArray⟩ : ByteArray).size = l.length := by simp [ByteArray.size]
theorem rep_one (x : UInt8) (c : Nat) : Lib.repeatL [x] c = List.replicate c x := by
  have := Lib.repeatL_replicate x 1 c
  simpa using this
/-- c copies of the byte x. -/
def repS (x : UInt8) (c : Nat) : ByteArray := ⟨(Lib.repeatL [x] c).toArray⟩
theorem repS_size (x : UInt8) (c : Nat) : (repS x c).size = c := by unfold repS; rw [size_list, rep_one, List.length_replicate]
theorem byt_repS {x : UInt8} {c i : Nat} (h : i < c) : byt (repS x c) i = x.toNat := by
  unfold repS
  rw [byt_list (by rw [rep_one, List.length_replicate]; exact h)]
  simp [rep_one]
end Go.Proofs.YtfcalpfpfibbfaaDoor
