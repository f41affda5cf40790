/- fees.amount, fees.number: walked. -/
import Derived.Test.YtikkocdbaekjmaaGreatDoorNum
import Derived.BigQuiet
import Derived.Deep.QuietTactic
import Derived.Deep.DeepCutAuto
import Derived.IntWalk
import Derived.Laws.Closers25b
namespace Go.Proofs.YtikkocdbaekjmaaGreatDoor
open Go.RowKit

/-- Is x an amount? -/
def amtB (x : Int) : Bool := decide (0 ≤ x ∧ x ≤ 10000000000)
theorem amount_any (x : Int) (w : World) : Calls Tryz.prog 24 #[.int .i64 x] w fun e w' => e = .returned (.bool (amtB x)) ∧ w = w' := by
  by_cases h : 0 ≤ x
  · have d1 : decide (0 ≤ x) = true := decide_eq_true h
    by_cases h2 : x ≤ 10000000000
    · have d2 : decide (x ≤ 10000000000) = true := decide_eq_true h2
      have e : amtB x = true := decide_eq_true ⟨h, h2⟩
      rw [e]
      clear h h2 e
      go_enter Tryz.func24, Tryz.ntmps24
      go_wp2
      go_ret
      exact ⟨rfl, rfl⟩
    · have d2 : decide (x ≤ 10000000000) = false := decide_eq_false h2
      have e : amtB x = false := decide_eq_false fun h => h2 h.2
      rw [e]
      clear h h2 e
      go_enter Tryz.func24, Tryz.ntmps24
      go_wp2
      go_ret
      exact ⟨rfl, rfl⟩
  · have d1 : decide (0 ≤ x) = false := decide_eq_false h
    have e : amtB x = false := decide_eq_false fun h' => h h'.1
    rw [e]
    clear h e
    go_enter Tryz.func24, Tryz.ntmps24
    go_wp2
    go_ret
    exact ⟨rfl, rfl⟩

def isDig (c : UInt8) : Bool := decide (48 ≤ c.toNat ∧ c.toNat ≤ 57)
def numAcc (l : List UInt8) : Nat := l.foldl (fun n c => 10 * n + (c.toNat - 48)) 0
theorem numAcc_snoc (l : List UInt8) (c : UInt8) : numAcc (l ++ [c]) = 10 * numAcc l + (c.toNat - 48) := by unfold numAcc; rw [List.foldl_append]; rfl
theorem foldl_lt : ∀ (l : List UInt8) (a : Nat), (∀ c ∈ l, isDig c = true) → l.foldl (fun n c => 10 * n + (c.toNat - 48)) a < (a + 1) * 10 ^ l.length
  | [], a, _ => by simp
  | c :: l, a, h => by
    have h1 := foldl_lt l (10 * a + (c.toNat - 48)) fun d hd => h d (by simp [hd])
    have h2 := of_decide_eq_true (h c (by simp))
    rw [List.foldl_cons, List.length_cons, Nat.pow_succ]
    refine Nat.lt_of_lt_of_le h1 ?_
    rw [show (a + 1) * (10 ^ l.length * 10) = (10 * (a + 1)) * 10 ^ l.length by rw [Nat.mul_comm (10 ^ l.length) 10, ← Nat.mul_assoc, Nat.mul_comm 10 (a + 1)]]
    exact Nat.mul_le_mul_right _ (by omega)
theorem numAcc_lt (l : List UInt8) (h : ∀ c ∈ l, isDig c = true) : numAcc l < 10 ^ l.length := by
  have := foldl_lt l 0 h
  simpa [numAcc] using this
/-- A number without a sign, if the text is one. -/
def numF (l : List UInt8) : Option Nat := if l ≠ [] ∧ l.length ≤ 12 ∧ l.all isDig = true then some (numAcc l) else none
/-- What number answers. -/
def numV (o : Option Nat) : Value := match o with
  | some n => .tuple #[.int .i64 (n : Int), .bool true]
  | none => .tuple #[.int .i64 0, .bool false]
theorem pow_le12 {k : Nat} (h : k ≤ 12) : 10 ^ k ≤ 1000000000000 := Nat.le_trans (Nat.pow_le_pow_right (by decide) h) (by decide)

theorem toList_ne {s : ByteArray} (h : s.size ≠ 0) : ¬ s.toList = [] := fun e => by
  rw [toList_nil_iff_emptyBytes] at e; subst e; exact h rfl
theorem take_snoc (s : ByteArray) (k : Nat) (h : k < s.size) : s.data.toList.take (k + 1) = s.data.toList.take k ++ [s[k]] := by
  rw [List.take_succ_eq_append_getElem (by simpa using h)]; rfl

set_option maxRecDepth 100000 in
set_option maxHeartbeats 1000000 in
theorem number_any (s : ByteArray) (w : World) : Calls Tryz.prog 29 #[.string s] w fun e w' => e = .returned (numV (numF s.data.toList)) ∧ w = w' := by
  have hlen : s.data.toList.length = s.size := Array.length_toList
  by_cases h0 : s.size = 0
  · have e : numF s.data.toList = none := if_neg fun h => h.1 (List.eq_nil_of_length_eq_zero (by omega))
    rw [e]
    have hs : s = ⟨#[]⟩ := ByteArray.ext (Array.eq_empty_of_size_eq_zero h0)
    subst hs
    clear h0 hlen e
    go_enter Tryz.func29, Tryz.ntmps29
    go_wp2
    go_ret2
    exact ⟨rfl, rfl⟩
  · have hl := toList_ne h0
    have hl2 : s.toList.isEmpty = false := by simpa using hl
    by_cases h12 : 12 < s.size
    · have e : numF s.data.toList = none := if_neg fun h => by have := h.2.1; omega
      rw [e]
      have d2 : decide ((12 : Int) < (s.size : Int)) = true := decide_eq_true (by omega)
      clear e hlen h0
      go_enter Tryz.func29, Tryz.ntmps29
      go_wp2
      go_ret2
      exact ⟨rfl, rfl⟩
    · have d2 : decide ((12 : Int) < (s.size : Int)) = false := decide_eq_false (by omega)
      have hne : s.data.toList ≠ [] := fun h => by rw [h] at hlen; simp at hlen; omega
      have HN := Lib.hid (show (∀ c ∈ s.data.toList, isDig c = true) → numF s.data.toList = some (numAcc s.data.toList) from fun h => if_pos ⟨hne, by omega, by rw [List.all_eq_true]; exact h⟩)
      have HB := Lib.hid (show ∀ k (h : k < s.size), isDig s[k] = false → numF s.data.toList = none from fun k h hb => if_neg fun h' => by
        have := List.all_eq_true.1 h'.2.2 s[k] (List.getElem_mem (l := s.data.toList) (by omega))
        rw [hb] at this; cases this)
      have HL := Lib.hid hlen
      have h12' : s.size ≤ 12 := by omega
      clear hne hlen
      go_enter Tryz.func29, Tryz.ntmps29
      go_wp2_with fail
      go_loop [5, 4] (fun vi vn => ∃ k : Nat, vi = .int .i64 k ∧ k ≤ s.size ∧ vn = .int .i64 (numAcc (s.data.toList.take k)) ∧ Hid (∀ c ∈ s.data.toList.take k, isDig c = true)) (fun vi _ => s.size - (intOf vi).toNat)
      case atStart => exact ⟨0, rfl, Nat.zero_le _, rfl, fun c hc => by simp at hc⟩
      case round =>
        obtain ⟨k, rfl, hk, rfl, hd⟩ := hrel
        have hlt := numAcc_lt _ hd.out
        rw [List.length_take, HL.out, Nat.min_eq_left hk] at hlt
        have hp := pow_le12 (show k ≤ 12 by omega)
        rcases Nat.lt_or_ge k s.size with h | h
        · have hts := take_snoc s k h
          have hsn := numAcc_snoc (s.data.toList.take k) s[k]
          rw [← hts] at hsn
          have HS := Lib.hid hsn
          have HT := Lib.hid hts
          have hbd := HB.out k h
          have HBD := Lib.hid hbd
          have h256 : s[k].toNat < 256 := s[k].toNat_lt
          clear hsn hts hbd
          have hm : numAcc (s.data.toList.take k) ≤ 1000000000000 := by omega
          clear hlt hp
          generalize numAcc (s.data.toList.take k) = m at *
          by_cases g1 : s[k].toNat < 48
          · have E := Lib.hid (HBD.out (decide_eq_false fun hh => by omega))
            have q1 : decide (((s[k].toNat : Nat) : Int) < 48) = true := decide_eq_true (by omega)
            go_wp2
            go_ret2
            exact ⟨congrArg (fun o => Ending.returned (numV o)) E.out.symm, rfl⟩
          · have q1 : decide (((s[k].toNat : Nat) : Int) < 48) = false := decide_eq_false (by omega)
            by_cases g2 : 57 < s[k].toNat
            · have E := Lib.hid (HBD.out (decide_eq_false fun hh => by omega))
              have q2 : decide ((57 : Int) < ((s[k].toNat : Nat) : Int)) = true := decide_eq_true (by omega)
              go_wp2
              go_ret2
              exact ⟨congrArg (fun o => Ending.returned (numV o)) E.out.symm, rfl⟩
            · have q2 : decide ((57 : Int) < ((s[k].toNat : Nat) : Int)) = false := decide_eq_false (by omega)
              have hD := Lib.hid (show ∀ c ∈ s.data.toList.take (k + 1), isDig c = true by
                rw [HT.out]
                intro c hc
                rcases List.mem_append.1 hc with hc | hc
                · exact hd.out c hc
                · rw [List.mem_singleton.1 hc]; exact decide_eq_true ⟨by omega, by omega⟩)
              clear hd
              go_wp2
              refine ⟨⟨k + 1, by go_num, h, ?_, hD⟩, by simp [intOf]; omega⟩
              rw [HS.out]
              exact congrArg (Value.int .i64) (by omega)
        · obtain rfl : k = s.size := by omega
          have ht : s.data.toList.take s.size = s.data.toList := List.take_of_length_le (by rw [HL.out]; exact Nat.le_refl _)
          have E := Lib.hid (HN.out (by rw [← ht]; exact hd.out))
          rw [ht]
          clear ht hlt hp
          go_wp2
          go_ret2
          exact ⟨congrArg (fun o => Ending.returned (numV o)) E.out.symm, rfl⟩
end Go.Proofs.YtikkocdbaekjmaaGreatDoor
