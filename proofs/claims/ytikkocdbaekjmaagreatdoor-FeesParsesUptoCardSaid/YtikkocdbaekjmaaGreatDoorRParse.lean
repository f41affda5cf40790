/- remitref18.Parse: walked. -/
import Derived.Test.YtikkocdbaekjmaaGreatDoorNumsW
import Derived.Test.YtikkocdbaekjmaaGreatDoorSpareW
import Derived.Maps.AppendAt
namespace Go.Proofs.YtikkocdbaekjmaaGreatDoor
open Go.RowKit
def endsTo (l t : List UInt8) : List UInt8 × Bool := if l.length < t.length ∨ l.drop (l.length - t.length) ≠ t then (l, false) else (l.take (l.length - t.length), true)
def popNum (b : Bool) (L : List Nat) : Nat × List Nat := if b = true ∧ L ≠ [] then (L.getD (L.length - 1) 0, L.take (L.length - 1)) else (0, L)
def tri : List Nat → List (Nat × Nat × Nat)
  | a :: b :: c :: l => (a, b, c) :: tri l
  | _ => []
/-- The schedule that a text's numbers could stand for. -/
def candOf (l : List UInt8) : List (Nat × Nat × Nat) × Nat × Nat :=
  (tri (popNum (endsTo (endsTo (numsTo l).2.1 [32, 109, 97, 120, 32]).1 [32, 109, 105, 110, 32]).2 (popNum (endsTo (numsTo l).2.1 [32, 109, 97, 120, 32]).2 (numsTo l).1).2).2,
   (popNum (endsTo (endsTo (numsTo l).2.1 [32, 109, 97, 120, 32]).1 [32, 109, 105, 110, 32]).2 (popNum (endsTo (numsTo l).2.1 [32, 109, 97, 120, 32]).2 (numsTo l).1).2).1,
   (popNum (endsTo (numsTo l).2.1 [32, 109, 97, 120, 32]).2 (numsTo l).1).1)
theorem fold_sep (L : List Nat) (r : List UInt8) (o : Bool) (c : UInt8) (h : c.toNat < 48 ∨ 57 < c.toNat) : [c].foldl numStep (L, r, o) = (L, r ++ [c], false) := by
  show numStep (L, r, o) c = _
  unfold numStep; rw [if_pos h]
theorem getD_snoc (L : List Nat) (x : Nat) : (L ++ [x]).getD L.length 0 = x := by simp [List.getD_eq_getElem?_getD]
theorem bump_snoc (L : List Nat) (x d : Nat) : bump (L ++ [x]) d = L ++ [min (x * 10 + d) 100000000000] := by
  unfold bump
  rw [List.length_append, show L.length + [x].length - 1 = L.length by simp, getD_snoc, List.set_append_right _ _ (Nat.le_refl _), Nat.sub_self]
  rfl
theorem fold_dec (L : List Nat) (r : List UInt8) : ∀ (N n : Nat), n ≤ N → n ≤ 100000000000 → (Lib.decDigits n).foldl numStep (L, r, false) = (L ++ [n], r, true)
  | N, n, h, hn => by
    rw [Lib.decDigits]
    split
    · rename_i h10
      show numStep (L, r, false) _ = _
      have e : (UInt8.ofNat (48 + n)).toNat = 48 + n := by rw [UInt8.toNat_ofNat']; omega
      unfold numStep
      rw [e, if_neg (by omega), if_neg (by simp), bump_snoc]
      rw [show min (0 * 10 + (48 + n - 48)) 100000000000 = n by omega]
    · rename_i h10
      obtain ⟨M, rfl⟩ : ∃ M, N = M + 1 := ⟨N - 1, by omega⟩
      rw [List.foldl_append, fold_dec L r M (n / 10) (by omega) (by omega)]
      show numStep (L ++ [n / 10], r, true) _ = _
      have e : (UInt8.ofNat (48 + n % 10)).toNat = 48 + n % 10 := by rw [UInt8.toNat_ofNat']; omega
      unfold numStep
      rw [e, if_neg (by omega), if_pos rfl, bump_snoc]
      rw [show min (n / 10 * 10 + (48 + n % 10 - 48)) 100000000000 = n by omega]
theorem fold_dg (L : List Nat) (r : List UInt8) {x : Int} (h : 0 ≤ x ∧ x ≤ 100000000000) : (dg x).foldl numStep (L, r, false) = (L ++ [x.toNat], r, true) := fold_dec L r _ _ (Nat.le_refl _) (by omega)
theorem fold_tier (L : List Nat) (r : List UInt8) {x : Tier} (h1 : 0 ≤ x.fr ∧ x.fr ≤ 100000000000) (h2 : 0 ≤ x.fl ∧ x.fl ≤ 100000000000) (h3 : 0 ≤ x.rt ∧ x.rt ≤ 100000000000) :
    (tierTxt x).foldl numStep (L, r, false) = (L ++ [x.fr.toNat, x.fl.toNat, x.rt.toNat], r ++ [58, 43], true) := by
  unfold tierTxt
  rw [List.foldl_append, List.foldl_append, List.foldl_append, List.foldl_append, fold_dg _ _ h1, fold_sep _ _ _ 58 (by decide), fold_dg _ _ h2, fold_sep _ _ _ 43 (by decide), fold_dg _ _ h3]
  simp
/-- The numbers of some tiers. -/
def flatT (t : Nat → Tier) : Nat → List Nat
  | 0 => []
  | k + 1 => flatT t k ++ [(t k).fr.toNat, (t k).fl.toNat, (t k).rt.toNat]
def sepT : Nat → List UInt8
  | 0 => []
  | k + 1 => sepT k ++ comma k ++ [58, 43]
theorem fold_tiers {t : Nat → Tier} {N : Nat} (h : ∀ i, i < N → (0 ≤ (t i).fr ∧ (t i).fr ≤ 100000000000) ∧ (0 ≤ (t i).fl ∧ (t i).fl ≤ 100000000000) ∧ (0 ≤ (t i).rt ∧ (t i).rt ≤ 100000000000)) :
    ∀ k, k ≤ N → (tiersTxt t k).foldl numStep ([], [], false) = (flatT t k, sepT k, decide (0 < k))
  | 0, _ => rfl
  | k + 1, hk => by
    obtain ⟨h1, h2, h3⟩ := h k (by omega)
    have ih := fold_tiers h k (by omega)
    unfold tiersTxt flatT sepT
    rw [List.foldl_append, List.foldl_append, ih]
    by_cases e : k = 0
    · subst e
      show (tierTxt (t 0)).foldl numStep (flatT t 0, sepT 0, false) = _
      rw [fold_tier _ _ h1 h2 h3]
      rfl
    · have hc : comma k = [44] := if_neg e
      rw [hc, fold_sep _ _ _ 44 (by decide), fold_tier _ _ h1 h2 h3]
      simp
theorem flat_snoc (ts : List (Nat × Nat × Nat)) : tri (ts.flatMap fun x => [x.1, x.2.1, x.2.2]) = ts := by
  induction ts with
  | nil => rfl
  | cons x ts ih => rw [List.flatMap_cons]; show (x.1, x.2.1, x.2.2) :: tri (ts.flatMap fun x => [x.1, x.2.1, x.2.2]) = _; rw [ih]
theorem flat_take (ts : List (Nat × Nat × Nat)) : ∀ k, k ≤ ts.length → flatT (tierAt ts) k = (ts.take k).flatMap fun x => [x.1, x.2.1, x.2.2]
  | 0, _ => by simp [flatT]
  | k + 1, hk => by
    unfold flatT
    rw [flat_take ts k (by omega), List.take_add_one, List.flatMap_append, List.getElem?_eq_getElem (by omega)]
    have e : tierAt ts k = ⟨(ts[k].1 : Nat), (ts[k].2.1 : Nat), (ts[k].2.2 : Nat)⟩ := by
      unfold tierAt
      simp [List.getD_eq_getElem?_getD, List.getElem?_eq_getElem (show k < ts.length by omega)]
    rw [e]
    simp
theorem ends_hit (a t : List UInt8) : endsTo (a ++ t) t = (a, true) := by
  unfold endsTo
  rw [List.length_append, Nat.add_sub_cancel, List.drop_left, List.take_left, if_neg (by simp)]
theorem ends_miss {l t : List UInt8} {c d : UInt8} (hl : l.getLast? = some c) (ht : t.getLast? = some d) (h : c ≠ d) : endsTo l t = (l, false) := by
  unfold endsTo
  refine if_pos ?_
  by_cases h1 : l.length < t.length
  · exact .inl h1
  · refine .inr fun e => h ?_
    have h2 : (l.drop (l.length - t.length)).getLast? = some d := by rw [e, ht]
    rw [List.getLast?_drop, hl] at h2
    split at h2
    · cases h2
    · injection h2
theorem pop_snoc (L : List Nat) (x : Nat) : popNum true (L ++ [x]) = (x, L) := by
  unfold popNum
  rw [if_pos ⟨rfl, by simp⟩, List.length_append, show L.length + [x].length - 1 = L.length by simp, getD_snoc, List.take_left]
theorem pop_not (L : List Nat) : popNum false L = (0, L) := if_neg (by simp)
theorem sepT_last (k : Nat) : (sepT (k + 1)).getLast? = some 43 := by unfold sepT; simp
theorem fold_min (L : List Nat) (r : List UInt8) (o : Bool) {l : Nat} (h : l ≤ 100000000000) : ∃ o', (minTxt (l : Int)).foldl numStep (L, r, o) = (L ++ (if l = 0 then [] else [l]), r ++ (if l = 0 then [] else [32, 109, 105, 110, 32]), o') := by
  by_cases e : l = 0
  · subst e; exact ⟨o, by simp [minTxt]⟩
  · refine ⟨true, ?_⟩
    unfold minTxt
    rw [if_neg (by omega), if_neg e, if_neg e, List.foldl_append]
    have h1 : [32, 109, 105, 110, 32].foldl numStep (L, r, o) = (L, r ++ [32, 109, 105, 110, 32], false) := by
      show numStep (numStep (numStep (numStep (numStep (L, r, o) 32) 109) 105) 110) 32 = _
      simp [numStep]
    rw [h1, fold_dg _ _ ⟨by omega, by omega⟩, Int.toNat_natCast]
theorem fold_max (L : List Nat) (r : List UInt8) (o : Bool) {l : Nat} (h : l ≤ 100000000000) : ∃ o', (maxTxt (l : Int)).foldl numStep (L, r, o) = (L ++ (if l = 0 then [] else [l]), r ++ (if l = 0 then [] else [32, 109, 97, 120, 32]), o') := by
  by_cases e : l = 0
  · subst e; exact ⟨o, by simp [maxTxt]⟩
  · refine ⟨true, ?_⟩
    unfold maxTxt
    rw [if_neg (by omega), if_neg e, if_neg e, List.foldl_append]
    have h1 : [32, 109, 97, 120, 32].foldl numStep (L, r, o) = (L, r ++ [32, 109, 97, 120, 32], false) := by
      show numStep (numStep (numStep (numStep (numStep (L, r, o) 32) 109) 97) 120) 32 = _
      simp [numStep]
    rw [h1, fold_dg _ _ ⟨by omega, by omega⟩, Int.toNat_natCast]
theorem cand_txt {ts : List (Nat × Nat × Nat)} {l m : Nat} (hG : goodB ts.length (tierAt ts) l m = true) : candOf (feeTxt ts.length (tierAt ts) l m) = (ts, l, m) := by
  have GP := goodP hG
  obtain ⟨k, hk⟩ : ∃ k, ts.length = k + 1 := ⟨ts.length - 1, by have := GP.n1; omega⟩
  have hl := GP.l0
  have hm := GP.m0
  have hN : ∃ o, numsTo (feeTxt ts.length (tierAt ts) l m) = (flatT (tierAt ts) ts.length ++ (if l = 0 then [] else [l]) ++ (if m = 0 then [] else [m]), sepT ts.length ++ (if l = 0 then [] else [32, 109, 105, 110, 32]) ++ (if m = 0 then [] else [32, 109, 97, 120, 32]), o) := by
    unfold numsTo feeTxt
    rw [List.foldl_append, List.foldl_append, fold_tiers (N := ts.length) (fun i hi => by have h1 := GP.fr i hi; have h2 := GP.fl i hi; have h3 := GP.rt i hi; omega) _ (Nat.le_refl _)]
    obtain ⟨o1, e1⟩ := fold_min (flatT (tierAt ts) ts.length) (sepT ts.length) (decide (0 < ts.length)) (l := l) (by omega)
    rw [e1]
    obtain ⟨o2, e2⟩ := fold_max (flatT (tierAt ts) ts.length ++ (if l = 0 then [] else [l])) (sepT ts.length ++ (if l = 0 then [] else [32, 109, 105, 110, 32])) o1 (l := m) (by omega)
    exact ⟨o2, e2⟩
  obtain ⟨o, hN⟩ := hN
  have hF : tri (flatT (tierAt ts) ts.length) = ts := by rw [flat_take ts _ (Nat.le_refl _), List.take_length, flat_snoc]
  have hS : (sepT ts.length).getLast? = some 43 := by rw [hk]; exact sepT_last k
  unfold candOf
  rw [hN]
  generalize flatT (tierAt ts) ts.length = F at *
  generalize sepT ts.length = S at *
  have hmin : endsTo (S ++ (if l = 0 then [] else [32, 109, 105, 110, 32])) [32, 109, 105, 110, 32] = (S, decide (l ≠ 0)) := by
    by_cases e : l = 0
    · rw [if_pos e, List.append_nil, ends_miss hS rfl (by decide)]; simp [e]
    · rw [if_neg e, ends_hit]; simp [e]
  have hmax : endsTo (S ++ (if l = 0 then [] else [32, 109, 105, 110, 32]) ++ (if m = 0 then [] else [32, 109, 97, 120, 32])) [32, 109, 97, 120, 32] = (S ++ (if l = 0 then [] else [32, 109, 105, 110, 32]), decide (m ≠ 0)) := by
    by_cases e : m = 0
    · rw [if_pos e, List.append_nil]
      by_cases e2 : l = 0
      · rw [if_pos e2, List.append_nil, ends_miss hS rfl (by decide)]; simp [e]
      · rw [if_neg e2]
        unfold endsTo
        rw [if_pos]
        · simp [e]
        · refine .inr ?_
          simp [List.length_append]
    · rw [if_neg e, ends_hit]; simp [e]
  have hpop : ∀ (X : List Nat) (x : Nat), popNum (decide (x ≠ 0)) (X ++ (if x = 0 then [] else [x])) = (x, X) := fun X x => by
    by_cases e : x = 0
    · rw [if_pos e, List.append_nil, show decide (x ≠ 0) = false by simp [e], pop_not, e]
    · rw [if_neg e, show decide (x ≠ 0) = true by simp [e], pop_snoc]
  simp only [hmax, hpop, hmin, hF]
theorem parse_cand (s : ByteArray) : parseF s = if goodB (candOf s.data.toList).1.length (tierAt (candOf s.data.toList).1) (candOf s.data.toList).2.1 (candOf s.data.toList).2.2 = true ∧ feeTxt (candOf s.data.toList).1.length (tierAt (candOf s.data.toList).1) (candOf s.data.toList).2.1 (candOf s.data.toList).2.2 = s.data.toList then some (candOf s.data.toList) else none := by
  split
  · rename_i h
    exact parseF_iff.2 h
  · rename_i h
    cases e : parseF s with
    | none => rfl
    | some f =>
      obtain ⟨ts, l, m⟩ := f
      have h1 := parseF_iff.1 e
      have h2 := cand_txt h1.1
      rw [h1.2] at h2
      rw [h2] at h
      exact absurd h1 h
end Go.Proofs.YtikkocdbaekjmaaGreatDoor
namespace Go.Proofs.YtikkocdbaekjmaaGreatDoor
open Go.RowKit
set_option maxRecDepth 100000 in
set_option maxHeartbeats 4000000 in
theorem ends_any (s t : ByteArray) (w : World) (hs : s.size ≤ 1000000000) (ht : t.size ≤ 1000000000) :
    Calls Tryz.prog 21 #[.string s, .string t] w fun e w' => e = .returned (.tuple #[.string ⟨(endsTo s.data.toList t.data.toList).1.toArray⟩, .bool (endsTo s.data.toList t.data.toList).2]) ∧ w = w' := by
  have hls : s.data.toList.length = s.size := Array.length_toList
  have hlt : t.data.toList.length = t.size := Array.length_toList
  by_cases h : s.size < t.size
  · have HR := Lib.hid (show endsTo s.data.toList t.data.toList = (s.data.toList, false) by unfold endsTo; rw [if_pos (.inl (by omega))])
    have hI : (s.size : Int) < t.size := by omega
    clear hls hlt
    go_enter Tryz.func21, Tryz.ntmps21
    go_wp2_with fail
    refine bodyPost_ret (results_tmp2 rfl _ _ _) rfl ?_
    exact ⟨by rw [HR.out]; rfl, rfl⟩
  · obtain ⟨d, hd⟩ : ∃ d, s.size = d + t.size := ⟨s.size - t.size, by omega⟩
    have q1 : decide ((d : Int) + t.size < t.size) = false := decide_eq_false (by omega)
    have hEX : (s.extract d (d + t.size)).toList = s.data.toList.drop (s.data.toList.length - t.data.toList.length) := by
      rw [bytes_toList, hls, hlt, show s.size - t.size = d by omega, ByteArray.data_extract, Array.toList_extract, List.extract_eq_take_drop]
      exact List.take_of_length_le (by rw [List.length_drop, hls, hd]; omega)
    have hE0 : (s.extract 0 d) = ⟨(s.data.toList.take d).toArray⟩ := by
      apply ByteArray.ext
      rw [ByteArray.data_extract]
      apply Array.ext'
      rw [Array.toList_extract, List.extract_eq_take_drop]
      simp
    have hT : endsTo s.data.toList t.data.toList = if (s.extract d (d + t.size)).toList ≠ t.toList then (s.data.toList, false) else (s.data.toList.take d, true) := by
      unfold endsTo
      rw [hEX, bytes_toList, hls, hlt, show s.size - t.size = d by omega]
      by_cases e : s.data.toList.drop d = t.data.toList
      · rw [if_neg (by simp [e]; omega), if_neg (by simp [e])]
      · rw [if_pos (.inr e), if_pos e]
    have HT := Lib.hid hT
    have HE0 := Lib.hid hE0
    clear h hT hE0 hEX hls hlt
    cases k : ((s.extract d (d + t.size)).toList == t.toList) with
    | false =>
      have HR := Lib.hid (show endsTo s.data.toList t.data.toList = (s.data.toList, false) by rw [HT.out, if_pos (ne_of_beq_false k)])
      have k2 : ((s.extract d (d + t.size)).toList != t.toList) = true := by unfold bne; rw [k]; rfl
      go_enter Tryz.func21, Tryz.ntmps21
      go_wp2_with fail
      refine bodyPost_ret (results_tmp2 rfl _ _ _) rfl ?_
      exact ⟨by rw [HR.out]; rfl, rfl⟩
    | true =>
      have HR := Lib.hid (show endsTo s.data.toList t.data.toList = (s.data.toList.take d, true) by rw [HT.out, if_neg (by simp [eq_of_beq k])])
      have k2 : ((s.extract d (d + t.size)).toList != t.toList) = false := by unfold bne; rw [k]; rfl
      go_enter Tryz.func21, Tryz.ntmps21
      go_wp2_with fail
      refine bodyPost_ret (results_tmp2 rfl _ _ _) rfl ?_
      exact ⟨by rw [HR.out]; simp only [← HE0.out]; rfl, rfl⟩
end Go.Proofs.YtikkocdbaekjmaaGreatDoor
namespace Go.Proofs.YtikkocdbaekjmaaGreatDoor
open Go.RowKit
/-- The numbers lie at A. -/
def NumsA (w : World) (A : Option Addr) (L : List Nat) : Prop := L = [] ∨ ∃ b, A = some ⟨b, 0, none⟩ ∧ (∃ cur, w.heap[b]? = some (.cells cur 2 (0, 0))) ∧ ∀ i, i < L.length → w.cell? ⟨b, i, none⟩ = some (.int .i64 ((L.getD i 0 : Nat) : Int))
theorem numsA_keep {w w' : World} {A : Option Addr} {L : List Nat} (h : NumsA w A L) (hb : ∀ (b : Nat) (cur : Array Value), w.heap[b]? = some (Obj.cells cur 2 (0, 0)) → w'.heap[b]? = w.heap[b]?) : NumsA w' A L :=
  h.imp id fun ⟨b, e, ⟨cur, hc⟩, hi⟩ => ⟨b, e, ⟨cur, (hb b cur hc).trans hc⟩, fun i h => (World.cell?_of_block (w := w) (w' := w') (a := ⟨b, i, none⟩) (hb b cur hc)).trans (hi i h)⟩
theorem numsA_pre {w : World} {A : Option Addr} {L : List Nat} (h : NumsA w A L) (k : Nat) : NumsA w A (L.take k) := by
  rcases h with rfl | ⟨b, e, hc, hi⟩
  · exact .inl (by simp)
  · refine .inr ⟨b, e, hc, fun i h => ?_⟩
    have h2 : i < k ∧ i < L.length := by rw [List.length_take] at h; omega
    rw [hi i h2.2]
    simp [List.getD_eq_getElem?_getD, List.getElem?_take, h2.1]
theorem OwnI.nums {w : World} {B : Nat} {v : Value} {L : List Nat} (h : OwnI w B v L) : ∃ A c, v = .slice A L.length c ∧ L.length ≤ c ∧ NumsA w A L := by
  obtain ⟨ao, c, e, hc⟩ := ownsRow_shape h
  refine ⟨ao, c, e, hc, ?_⟩
  rcases Nat.eq_zero_or_pos L.length with h0 | h0
  · exact .inl (List.length_eq_zero_iff.1 h0)
  obtain ⟨g, cap, e2, hge, hgl⟩ := World.ownsRow.form h h0
  subst e
  cases e2
  refine .inr ⟨g, rfl, (h.block g rfl).2.2, fun i hi => ?_⟩
  rw [World.ownsRow.cellAt h i (by omega), List.getElem?_map, List.getElem?_eq_getElem hi, List.getD_eq_getElem?_getD, List.getElem?_eq_getElem hi]
  rfl
structure RP (w0 w : World) (g : Nat) (v : Value) (ts : List (Nat × Nat × Nat)) (l m : Nat) (A : Option Addr) (L : List Nat) : Prop where
  below : Below w0.heap.size w0 w
  gt : w0.heap.size < g
  res : w.heap[w0.heap.size]? = some (.cells #[.slice none 0 0, .int .i64 0, .int .i64 0] 25 (0, 0))
  box : w.heap[g]? = some (.cells #[v, .int .i64 l, .int .i64 m] 25 (0, 0))
  own : OwnT w w0.heap.size v ts
  nums : NumsA w A L
section
variable {w0 w w' : World} {g : Nat} {v v' : Value} {ts ts' : List (Nat × Nat × Nat)} {l m : Nat} {A : Option Addr} {L : List Nat}
theorem RP.step (h : RP w0 w g v ts l m A L) (hb : Below w.heap.size w w') : RP w0 w' g v ts l m A L :=
  ⟨h.below.trans (hb.mono h.below.size), h.gt, (hb.block _ (lt_of_block h.res)).trans h.res, (hb.block _ (lt_of_block h.box)).trans h.box, h.own.keep fun k hk => hb.block k (h.own.block k hk).2.1, numsA_keep h.nums fun b _ hc => hb.block b (lt_of_block hc)⟩
theorem RP.other {k : Nat} {c : Array Value} {t : TypeId} (h : RP w0 w g v ts l m A L) (hk : w.heap[k]? = some (.cells c t (0, 0))) (ht : t ≠ 35) : some k ≠ v.ownBlock := fun e => by
  obtain ⟨_, _, cur, hc⟩ := h.own.block k e.symm
  rw [hk] at hc
  injection hc with hc; injection hc with _ hc _; exact ht hc
theorem RP.put {v2 : Value} {i : Nat} {u : Value} {l2 m2 : Nat} (h : RP w0 w g v ts l m A L) (ho : OwnT w w0.heap.size v2 ts') (hv : (#[v, .int .i64 l, .int .i64 m] : Array Value).setIfInBounds i u = #[v2, .int .i64 l2, .int .i64 m2]) : RP w0 (w.setCell ⟨g, i, none⟩ u) g v2 ts' l2 m2 A L := by
  have oth : ∀ k, k ≠ g → (w.setCell ⟨g, i, none⟩ u).heap[k]? = w.heap[k]? := fun k hk => Below.heap_setCell w ⟨g, i, none⟩ u k hk
  have hgt := h.gt
  refine ⟨h.below.setCell (p := ⟨g, i, none⟩) (Nat.le_of_lt hgt) u, hgt, (oth _ (by omega)).trans h.res, ?_, ho.keep fun k hk => oth k fun e => ?_, numsA_keep h.nums fun b _ hc => oth b fun e => ?_⟩
  · rw [← hv]; exact heap_set_at h.box u
  · obtain ⟨_, _, cur, hc⟩ := ho.block k hk
    rw [e, h.box] at hc
    injection hc with hc; injection hc with _ hc _; cases hc
  · rw [e, h.box] at hc
    injection hc with hc; injection hc with _ hc _; cases hc
/-- What an append to the tiers leaves alone. -/
theorem RP.old {k : Nat} {c : Array Value} {t : TypeId} (h : RP w0 w g v ts l m A L) (hg : w.grownBy w' v.ownBlock) (hk : w.heap[k]? = some (.cells c t (0, 0))) (ht : t ≠ 35) : w'.heap[k]? = w.heap[k]? := hg.block k (lt_of_block hk) (h.other hk ht)
theorem RP.grown (h : RP w0 w g v ts l m A L) (ho : OwnT w' w0.heap.size v' ts') (hg : w.grownBy w' v.ownBlock) : RP w0 (w'.setCell ⟨g, 0, none⟩ v') g v' ts' l m A L := by
  have hb := (h.old hg h.box (by decide)).trans h.box
  have oth : ∀ k, k ≠ g → (w'.setCell ⟨g, 0, none⟩ v').heap[k]? = w'.heap[k]? := fun k hk => Below.heap_setCell w' ⟨g, 0, none⟩ v' k hk
  have hgt := h.gt
  refine ⟨(h.below.grown hg h.below.size (fun k hk => (h.own.block k hk).1)).setCell (p := ⟨g, 0, none⟩) (Nat.le_of_lt hgt) v', hgt, (oth _ (by omega)).trans ((h.old hg h.res (by decide)).trans h.res), heap_set_at hb v', ho.keep fun k hk => oth k fun e => ?_, numsA_keep h.nums fun b _ hc => (oth b fun e => ?_).trans (h.old hg hc (by decide))⟩
  · obtain ⟨_, _, cur, hc⟩ := ho.block k hk
    rw [e, hb] at hc
    injection hc with hc; injection hc with _ hc _; cases hc
  · rw [e, h.box] at hc
    injection hc with hc; injection hc with _ hc _; cases hc
end
theorem append_tier_wp {w : World} {o : Oper} {a : Act} {K : Act → World → Prop} {Q : Exit → Act → World → Prop} (s x : Operand) (ho : o.op = .call { callee := .builtin .append, args := #[s, x], argTypes := #[23, 23] })
    (B : Nat) (v : Value) (ts : List (Nat × Nat × Nat)) (hs : a.eval s = v) (hown : OwnT w B v ts) (g : Nat) (t : Nat × Nat × Nat) (hx : a.eval x = .slice (some ⟨g, 0, none⟩) 1 1) (hg : w.heap[g]? = some (.cells #[.int .i64 t.1, .int .i64 t.2.1, .int .i64 t.2.2] 35 (0, 0)))
    (hlen : ts.length ≤ 4294967296) (hB : B ≤ w.heap.size)
    (h : ∀ v' w', OwnT w' B v' (ts ++ [t]) → w.grownBy w' v.ownBlock → K (a.put o.dst v') w') : Oper.wp Tryz.prog o a w K Q := by
  obtain ⟨i, hi, hzz⟩ := Option.map_eq_some_iff.1 info35
  simp only [Prod.mk.injEq] at hzz
  obtain ⟨hz, hsz, hby⟩ := hzz
  have hadd : ∀ i, (⟨g, 0, none⟩ : Addr).add i = ⟨g, i, none⟩ := fun i => by unfold Addr.add; split <;> simp_all
  obtain ⟨c0, c1, c2⟩ := box3 hg
  obtain ⟨v', w', hr, h1, h2, _, _⟩ := run_append_own_at (P := Tryz.prog) w B 23 o.type 35 i _ 3 24 Tryz.underlying23 hi hz hsz hby rfl (by decide) v ts.length _ hown ⟨g, 0, none⟩ 1 1 (tCells [t]) rfl
    (fun j u hu => by
      rw [hadd]
      match j with
      | 0 => cases hu; exact c0
      | 1 => cases hu; exact c1
      | 2 => cases hu; exact c2
      | j + 3 => cases hu)
    (fun u hu => by
      simp [tCells] at hu
      rcases hu with rfl | rfl | rfl <;> rfl)
    (by unfold maxLen; omega) (by omega) hB
  unfold Oper.wp execOp
  simp only [ho, resolve, invoke, builtin, Sem.run_bind, Sem.run_pure, Result.andThen_ok, List.map_toArray, List.map_cons, List.map_nil, hs, hx, hr]
  refine h v' w' ?_ h2
  unfold OwnT
  rw [tCells_append, List.length_append]
  exact h1
end Go.Proofs.YtikkocdbaekjmaaGreatDoor
namespace Go.Proofs.YtikkocdbaekjmaaGreatDoor
open Go.RowKit
/-- What the document's Parse answers. -/
def RParsePost (w : World) (s : ByteArray) (e : Ending) (w' : World) : Prop := Below w.heap.size w w' ∧ ((∃ ts l m A c, parseF s = some (ts, l, m) ∧ OwnT w' w.heap.size (.slice A ts.length c) ts ∧ e = .returned (.tuple #[.agg #[.slice A ts.length c, .int .i64 (l : Nat), .int .i64 (m : Nat)], .int .i64 0])) ∨
  (parseF s = none ∧ e = .returned (.tuple #[.agg #[.slice none 0 0, .int .i64 0, .int .i64 0], .int .i64 7])))
theorem ends_le (l t : List UInt8) : (endsTo l t).1.length ≤ l.length := by
  unfold endsTo
  split
  · exact Nat.le_refl _
  · rw [List.length_take]; omega
theorem pop_len (b : Bool) (L : List Nat) : (popNum b L).2.length ≤ L.length := by
  unfold popNum
  split
  · rw [List.length_take]; omega
  · exact Nat.le_refl _
theorem pop_true {b : Bool} {L : List Nat} (h : (b && decide (0 < L.length)) = true) : popNum b L = (L.getD (L.length - 1) 0, L.take (L.length - 1)) := by
  simp only [Bool.and_eq_true, decide_eq_true_eq] at h
  exact if_pos ⟨h.1, List.length_pos_iff.1 h.2⟩
theorem pop_false {b : Bool} {L : List Nat} (h : (b && decide (0 < L.length)) = false) : popNum b L = (0, L) := by
  refine if_neg fun ⟨h1, h2⟩ => ?_
  rw [h1, decide_eq_true (List.length_pos_iff.2 h2)] at h
  cases h
theorem tri_len : ∀ (N : Nat) (L : List Nat), L.length ≤ N → (tri L).length = L.length / 3
  | _, [], _ => rfl
  | _, [_], _ => by simp [tri]
  | _, [_, _], _ => by simp [tri]
  | N + 1, a :: b :: c :: L, h => by
    have ih := tri_len N L (by simp at h; omega)
    show (tri L).length + 1 = (L.length + 1 + 1 + 1) / 3
    omega
theorem tri_at : ∀ (k : Nat) (L : List Nat), 3 * k + 2 < L.length → (tri L)[k]? = some (L.getD (3 * k) 0, L.getD (3 * k + 1) 0, L.getD (3 * k + 2) 0)
  | 0, a :: b :: c :: L, _ => rfl
  | k + 1, a :: b :: c :: L, h => by
    have ih := tri_at k L (by simp at h; omega)
    show (tri L)[k]? = _
    rw [ih, show 3 * (k + 1) = 3 * k + 1 + 1 + 1 by omega, show 3 * k + 1 + 1 + 1 + 1 = (3 * k + 1) + 1 + 1 + 1 by omega, show 3 * k + 1 + 1 + 1 + 2 = (3 * k + 2) + 1 + 1 + 1 by omega]
    rfl
  | k, [], h => by simp at h
  | k, [_], h => by simp at h
  | k, [_, _], h => by simp at h; omega
set_option maxRecDepth 100000 in
set_option maxHeartbeats 4000000 in
theorem rparse_any (s : ByteArray) (w : World) (hs : s.size ≤ 100000000) : Calls Tryz.prog 8 #[.string s] w (RParsePost w s) := by
  have hb0 := Below.new w (.cells #[.slice none 0 0, .int .i64 0, .int .i64 0] 25)
  have HB0 := Lib.hid hb0
  have HR0 := Lib.hid (show (w.alloc (.cells #[.slice none 0 0, .int .i64 0, .int .i64 0] 25)).heap[w.heap.size]? = some (.cells #[.slice none 0 0, .int .i64 0, .int .i64 0] 25 (0, 0)) from heap_alloc_new w _)
  have hls : s.data.toList.length = s.size := Array.length_toList
  have HP0 := Lib.hid (numsP s.data.toList)
  have a1 := numbers_any s (w.alloc (.cells #[.slice none 0 0, .int .i64 0, .int .i64 0] 25)) hs
  have HC := Lib.hid (parse_cand s)
  obtain ⟨cs, hcs⟩ : ∃ cs, cs = candOf s.data.toList := ⟨_, rfl⟩
  rw [← hcs] at HC
  have HCO := Lib.hid hcs
  clear hcs
  clear hb0
  go_enter Tryz.func8, Tryz.ntmps8
  go_wp2_with fail
  refine a1.mono ?_
  clear a1
  rintro e w2 ⟨vL, rfl, hI, hb⟩
  obtain ⟨A, c, rfl, hLc, hNA⟩ := hI.nums
  unfold candOf at HCO
  generalize numsTo s.data.toList = st at *
  obtain ⟨L, r, o⟩ := st
  have hLl : L.length ≤ s.size := by have := HP0.out.len; rw [hls] at this; exact this
  have hrl : r.length ≤ s.size := by have := HP0.out.rlen; rw [hls] at this; exact this
  have hlt2 : w.heap.size < w2.heap.size := lt_of_block ((hb.block _ (by simp)).trans HR0.out)
  have HRP := Lib.hid (show RP w (w2.alloc (.cells #[.slice none 0 0, .int .i64 0, .int .i64 0] 25)) w2.heap.size (.slice none 0 0) [] 0 0 A L from
    ⟨(HB0.out.trans (hb.mono HB0.out.size)).alloc (HB0.out.trans (hb.mono HB0.out.size)).size _, hlt2, (Below.new w2 _).block _ hlt2 |>.trans ((hb.block _ (by simp)).trans HR0.out), heap_alloc_new w2 _, OwnT.nil _ _, numsA_keep hNA fun b _ hc => (Below.new w2 _).block b (lt_of_block hc)⟩)
  clear hI hb hNA HB0 HR0 HP0 hls
  have a2 := fun W => ends_any ⟨r.toArray⟩ ⟨#[32, 109, 97, 120, 32]⟩ W (by show r.toArray.size ≤ _; rw [List.size_toArray]; omega) (by decide)
  have e0 : (⟨r.toArray⟩ : ByteArray).data.toList = r := rfl
  have e1 : (⟨#[32, 109, 97, 120, 32]⟩ : ByteArray).data.toList = [32, 109, 97, 120, 32] := rfl
  simp only [e0, e1] at a2
  have hr1 := ends_le r [32, 109, 97, 120, 32]
  simp only at HCO
  generalize endsTo r [32, 109, 97, 120, 32] = E1 at *
  obtain ⟨r1, b1⟩ := E1
  have a3 := fun W => ends_any ⟨r1.toArray⟩ ⟨#[32, 109, 105, 110, 32]⟩ W (by show r1.toArray.size ≤ _; rw [List.size_toArray]; simp only at hr1; omega) (by decide)
  have e3 : (⟨r1.toArray⟩ : ByteArray).data.toList = r1 := rfl
  have e4 : (⟨#[32, 109, 105, 110, 32]⟩ : ByteArray).data.toList = [32, 109, 105, 110, 32] := rfl
  simp only [e3, e4] at a3
  simp only at HCO
  generalize endsTo r1 [32, 109, 105, 110, 32] = E2 at *
  obtain ⟨r2, b2⟩ := E2
  clear e0 e1 e3 e4
  have A2 := Lib.hid a2
  have A3 := Lib.hid a3
  have HL1 := Lib.hid (pop_len b1 L)
  have HPOP := Lib.hid (show popNum b1 L = popNum b1 L from rfl)
  clear a2 a3
  go_upto_region 3 with fail
  generalize w2.heap.size = g at *
  generalize w2.alloc (.cells #[.slice none 0 0, .int .i64 0, .int .i64 0] 25) = w3 at *
  clear HPOP
  go_upto_region 4 with fail
  refine (A2.out _).mono ?_
  rintro e w4 ⟨rfl, rfl⟩
  go_upto_region 4 with fail
  go_cut [28] from 23 to 28 (fun v wx => Hid (v = .bool (b1 && decide (0 < L.length))) ∧ wx = w3)
  case first =>
    cases b1 with
    | false =>
      go_wp2
      go_meet
      exact ⟨Lib.hid rfl, rfl⟩
    | true =>
      go_wp2
      go_meet
      exact ⟨Lib.hid (by simp), rfl⟩
  case rest =>
    obtain ⟨hu, rfl⟩ := hcut
    have hu := hu.out
    subst hu
    generalize hq : (b1 && decide (0 < L.length)) = q at *
    have HQ := Lib.hid hq
    clear hq
    go_upto_if 28 with fail
    go_cut [4] from 12 to 40 (fun v wx => v = .slice A (popNum b1 L).2.length c ∧ Hid (RP w wx g (.slice none 0 0) [] 0 (popNum b1 L).1 A (popNum b1 L).2))
    case first =>
      cases q with
      | false =>
        have e := pop_false HQ.out
        go_wp2
        go_meet
        rw [e]
        exact ⟨rfl, HRP⟩
      | true =>
        have e := Lib.hid (pop_true HQ.out)
        have hne : 0 < L.length := by have := HQ.out; simp only [Bool.and_eq_true, decide_eq_true_eq] at this; exact this.2
        obtain ⟨j, hj⟩ : ∃ j, L.length = j + 1 := ⟨L.length - 1, by omega⟩
        rcases HRP.out.nums with h0 | ⟨b, rfl, hcur, hcells⟩
        · rw [h0] at hne; exact absurd hne (by simp)
        have hx := hcells j (by omega)
        have HX := Lib.hid (show L.getD (L.length - 1) 0 = L.getD j 0 by rw [hj]; rfl)
        have HTK := Lib.hid (show (L.take (L.length - 1)).length = j by rw [List.length_take]; omega)
        generalize L.getD j 0 = x at *
        obtain ⟨z0, z1, z2⟩ := box3 HRP.out.box
        obtain ⟨f0, f1, f2⟩ := thaw3 HRP.out.box
        simp only [hj]
        have hjc : j + 1 ≤ c := by omega
        clear hcells hcur hne
        go_wp2
        go_meet
        rw [e.out]
        refine ⟨by rw [HTK.out], ?_⟩
        rw [HX.out]
        have h2 := HRP.out.put (i := 2) (l2 := 0) (m2 := x) (u := .int .i64 (x : Nat)) HRP.out.own rfl
        exact Lib.hid ⟨h2.below, h2.gt, h2.res, h2.box, h2.own, numsA_pre h2.nums _⟩
    case rest =>
      obtain ⟨hu4, hrq⟩ := hcut
      subst hu4
      have hL1 := HL1.out
      generalize popNum b1 L = PM at *
      obtain ⟨M, L1⟩ := PM
      simp only at hL1 HCO
      have HRQ := Lib.hid (show RP w wc g (.slice none 0 0) [] 0 M A L1 from hrq.out)
      have hL1c : L1.length ≤ c := by omega
      have HL2 := Lib.hid (pop_len b2 L1)
      clear hrq HRP HL1 HQ
      simp only
      go_upto_region 7 with fail
      go_upto_region 8 with fail
      refine (A3.out _).mono ?_
      rintro e w4 ⟨rfl, rfl⟩
      go_upto_region 8 with fail
      go_cut [51] from 12 to 51 (fun v wx => Hid (v = .bool (b2 && decide (0 < L1.length))) ∧ wx = wc)
      case first =>
        cases b2 with
        | false =>
          go_wp2
          go_meet
          exact ⟨Lib.hid rfl, rfl⟩
        | true =>
          go_wp2
          go_meet
          exact ⟨Lib.hid (by simp), rfl⟩
      case rest =>
        obtain ⟨hu, rfl⟩ := hcut
        have hu := hu.out
        subst hu
        generalize hq : (b2 && decide (0 < L1.length)) = q2 at *
        have HQ := Lib.hid hq
        clear hq
        go_upto_if 51 with fail
        go_cut [4] from 12 to 63 (fun v wx => v = .slice A (popNum b2 L1).2.length c ∧ Hid (RP w wx g (.slice none 0 0) [] (popNum b2 L1).1 M A (popNum b2 L1).2))
        case first =>
          cases q2 with
          | false =>
            have e := pop_false HQ.out
            go_wp2
            go_meet
            rw [e]
            exact ⟨rfl, HRQ⟩
          | true =>
            have e := Lib.hid (pop_true HQ.out)
            have hne : 0 < L1.length := by have := HQ.out; simp only [Bool.and_eq_true, decide_eq_true_eq] at this; exact this.2
            obtain ⟨j, hj⟩ : ∃ j, L1.length = j + 1 := ⟨L1.length - 1, by omega⟩
            rcases HRQ.out.nums with h0 | ⟨b, rfl, hcur, hcells⟩
            · rw [h0] at hne; exact absurd hne (by simp)
            have hx := hcells j (by omega)
            have HX := Lib.hid (show L1.getD (L1.length - 1) 0 = L1.getD j 0 by rw [hj]; rfl)
            have HTK := Lib.hid (show (L1.take (L1.length - 1)).length = j by rw [List.length_take]; omega)
            generalize L1.getD j 0 = x at *
            obtain ⟨z0, z1, z2⟩ := box3 HRQ.out.box
            obtain ⟨f0, f1, f2⟩ := thaw3 HRQ.out.box
            simp only [hj]
            have hjc : j + 1 ≤ c := by omega
            clear hcells hcur hne
            go_wp2
            go_meet
            rw [e.out]
            refine ⟨by rw [HTK.out], ?_⟩
            rw [HX.out]
            have h2 := HRQ.out.put (i := 1) (l2 := x) (m2 := M) (u := .int .i64 (x : Nat)) HRQ.out.own rfl
            exact Lib.hid ⟨h2.below, h2.gt, h2.res, h2.box, h2.own, numsA_pre h2.nums _⟩
        case rest =>
          obtain ⟨hu4, hrq⟩ := hcut
          subst hu4
          have hL2 := HL2.out
          generalize popNum b2 L1 = PM at *
          obtain ⟨l, L2⟩ := PM
          simp only at hL2 HCO
          have HRP := Lib.hid (show RP w wc g (.slice none 0 0) [] l M A L2 from hrq.out)
          have hL2c : L2.length ≤ c := by omega
          have HTL := Lib.hid (tri_len L2.length L2 (Nat.le_refl _))
          have hL2s : L2.length ≤ 100000000 := by omega
          have HL2s := Lib.hid hL2s
          clear hrq HRQ HL2 HQ hL2 hL1 hL1c hLc hLl hrl hr1 A2 A3
          simp only
          go_wp2_with fail
          go_loopw [9] (fun vi wr => ∃ (i k : Nat) (v : Value), vi = .int .i64 i ∧ Hid (i = 3 * k) ∧ k ≤ (tri L2).length ∧ Hid (RP w wr g v ((tri L2).take k) l M A L2)) (fun vi _ => L2.length - (intOf vi).toNat)
          case atStart => exact ⟨0, 0, _, rfl, Lib.hid rfl, Nat.zero_le _, HRP⟩
          case round =>
            obtain ⟨i, k, v, rfl, hik, hk, hrp⟩ := hrel
            by_cases h : i + 2 < L2.length
            · have hi0 : (i : Int) < L2.length := by omega
              have hi1 : (i : Int) + 1 < L2.length := by omega
              have hi2 : (i : Int) + 2 < L2.length := by omega
              rcases hrp.out.nums with h0 | ⟨b, rfl, ⟨cur, hcur⟩, hcells⟩
              · rw [h0] at h; exact absurd h (by simp)
              obtain ⟨A0, c0, rfl⟩ := hrp.out.own.form
              have HK1 := Lib.hid (show (tri L2).take (k + 1) = (tri L2).take k ++ [(L2.getD i 0, L2.getD (i + 1) 0, L2.getD (i + 2) 0)] by
                have h1 := hik.out
                rw [List.take_add_one, tri_at k L2 (by omega), h1]
                rfl)
              have hk1 : k + 1 ≤ (tri L2).length := by have := HTL.out; have := hik.out; omega
              have CI := Lib.hid (show ∀ W : World, (W.heap[b]? = wr.heap[b]? ∧ W.heap[g]? = wr.heap[g]?) → W.cell? ⟨g, 0, none⟩ = some (.slice A0 ((tri L2).take k).length c0) ∧ W.cell? ⟨b, i, none⟩ = some (.int .i64 ((L2.getD i 0 : Nat) : Int)) ∧ W.cell? ⟨b, i + 1, none⟩ = some (.int .i64 ((L2.getD (i + 1) 0 : Nat) : Int)) ∧ W.cell? ⟨b, i + 2, none⟩ = some (.int .i64 ((L2.getD (i + 2) 0 : Nat) : Int)) from fun W hW =>
                ⟨(World.cell?_of_block (w := wr) (w' := W) (a := ⟨g, 0, none⟩) hW.2).trans (box3 hrp.out.box).1, (World.cell?_of_block (w := wr) (w' := W) (a := ⟨b, i, none⟩) hW.1).trans (hcells _ (by omega)), (World.cell?_of_block (w := wr) (w' := W) (a := ⟨b, i + 1, none⟩) hW.1).trans (hcells _ (by omega)), (World.cell?_of_block (w := wr) (w' := W) (a := ⟨b, i + 2, none⟩) hW.1).trans (hcells _ (by omega))⟩)
              have HCUR := Lib.hid hcur
              have HTS := Lib.hid (show ((tri L2).take k).length ≤ 4294967296 by rw [List.length_take, HTL.out]; omega)
              generalize (tri L2).take k = ts at *
              generalize L2.getD i 0 = x0 at *
              generalize L2.getD (i + 1) 0 = x1 at *
              generalize L2.getD (i + 2) 0 = x2 at *
              clear hcells hcur hk
              have hbw := lt_of_block HCUR.out
              have hgw := lt_of_block hrp.out.box
              have HBN := Lib.hid (show Below wr.heap.size wr (wr.drew.alloc (.cells #[.int .i64 (x0 : Nat), .int .i64 (x1 : Nat), .int .i64 (x2 : Nat)] 35)) from (Below.refl _ _).drew.alloc (Nat.le_refl _) _)
              have HRS4 := Lib.hid (hrp.out.step HBN.out)
              have HSB := Lib.hid (show (wr.drew.alloc (.cells #[.int .i64 (x0 : Nat), .int .i64 (x1 : Nat), .int .i64 (x2 : Nat)] 35)).heap[b]? = wr.heap[b]? ∧ (wr.drew.alloc (.cells #[.int .i64 (x0 : Nat), .int .i64 (x1 : Nat), .int .i64 (x2 : Nat)] 35)).heap[g]? = wr.heap[g]? from ⟨HBN.out.block b hbw, HBN.out.block g hgw⟩)
              go_upto_region 14 with fail
              refine wp_region_R (S := fun W => W.heap[b]? = wr.heap[b]? ∧ W.heap[g]? = wr.heap[g]?) (late := [20]) (by kernel_rfl) ?_
              refine wpAnyR_takeY (i := 0) (v := .pointer (some ⟨g, 0, none⟩)) rfl (by kernel_rfl) (by kernel_rfl) (by kernel_rfl) (fun _ _ _ h => h) (Or.inl ⟨by kernel_rfl, ?_⟩) ?_
              · intro W _; go_simp <;> first | omega | (intro; omega) | (simp only [IntKind.wrap_i64]; omega)
              try simp only [Act.put, List.getElem_toArray, List.getElem_cons_succ, List.getElem_cons_zero, List.setIfInBounds_toArray, List.set_cons_succ, List.set_cons_zero]
              refine wpAnyR_take (i := 1) (v := .slice A0 ts.length c0) rfl (by kernel_rfl) (by kernel_rfl) (by kernel_rfl) (by kernel_rfl) (by kernel_rfl) (fun _ _ _ h => h) (Or.inl ⟨by kernel_rfl, ?_⟩) ⟨rfl, rfl⟩ ?_
              · intro W hSw; obtain ⟨d0, d1, d2, d3⟩ := CI.out W hSw; go_simp
              try simp only [Act.put, List.getElem_toArray, List.getElem_cons_succ, List.getElem_cons_zero, List.setIfInBounds_toArray, List.set_cons_succ, List.set_cons_zero]
              refine wpAnyR_takeY (i := 2) (v := .slice (some ⟨b, 0, none⟩) L2.length c) rfl (by kernel_rfl) (by kernel_rfl) (by kernel_rfl) (fun _ _ _ h => h) (Or.inl ⟨by kernel_rfl, ?_⟩) ?_
              · intro W _; go_simp <;> first | omega | (intro; omega) | (simp only [IntKind.wrap_i64]; omega)
              try simp only [Act.put, List.getElem_toArray, List.getElem_cons_succ, List.getElem_cons_zero, List.setIfInBounds_toArray, List.set_cons_succ, List.set_cons_zero]
              refine wpAnyR_takeY (i := 3) (v := .int .i64 (i : Nat)) rfl (by kernel_rfl) (by kernel_rfl) (by kernel_rfl) (fun _ _ _ h => h) (Or.inl ⟨by kernel_rfl, ?_⟩) ?_
              · intro W _; go_simp <;> first | omega | (intro; omega) | (simp only [IntKind.wrap_i64]; omega)
              try simp only [Act.put, List.getElem_toArray, List.getElem_cons_succ, List.getElem_cons_zero, List.setIfInBounds_toArray, List.set_cons_succ, List.set_cons_zero]
              refine wpAnyR_takeY (i := 4) (v := .pointer (some ⟨b, i, none⟩)) rfl (by kernel_rfl) (by kernel_rfl) (by kernel_rfl) (fun _ _ _ h => h) (Or.inl ⟨by kernel_rfl, ?_⟩) ?_
              · intro W _; go_simp <;> first | omega | (intro; omega) | (simp only [IntKind.wrap_i64]; omega)
              try simp only [Act.put, List.getElem_toArray, List.getElem_cons_succ, List.getElem_cons_zero, List.setIfInBounds_toArray, List.set_cons_succ, List.set_cons_zero]
              refine wpAnyR_take (i := 5) (v := .int .i64 (x0 : Nat)) rfl (by kernel_rfl) (by kernel_rfl) (by kernel_rfl) (by kernel_rfl) (by kernel_rfl) (fun _ _ _ h => h) (Or.inl ⟨by kernel_rfl, ?_⟩) ⟨rfl, rfl⟩ ?_
              · intro W hSw; obtain ⟨d0, d1, d2, d3⟩ := CI.out W hSw; go_simp
              try simp only [Act.put, List.getElem_toArray, List.getElem_cons_succ, List.getElem_cons_zero, List.setIfInBounds_toArray, List.set_cons_succ, List.set_cons_zero]
              refine wpAnyR_takeY (i := 6) (v := .slice (some ⟨b, 0, none⟩) L2.length c) rfl (by kernel_rfl) (by kernel_rfl) (by kernel_rfl) (fun _ _ _ h => h) (Or.inl ⟨by kernel_rfl, ?_⟩) ?_
              · intro W _; go_simp <;> first | omega | (intro; omega) | (simp only [IntKind.wrap_i64]; omega)
              try simp only [Act.put, List.getElem_toArray, List.getElem_cons_succ, List.getElem_cons_zero, List.setIfInBounds_toArray, List.set_cons_succ, List.set_cons_zero]
              refine wpAnyR_takeY (i := 7) (v := .int .i64 (i : Nat)) rfl (by kernel_rfl) (by kernel_rfl) (by kernel_rfl) (fun _ _ _ h => h) (Or.inl ⟨by kernel_rfl, ?_⟩) ?_
              · intro W _; go_simp <;> first | omega | (intro; omega) | (simp only [IntKind.wrap_i64]; omega)
              try simp only [Act.put, List.getElem_toArray, List.getElem_cons_succ, List.getElem_cons_zero, List.setIfInBounds_toArray, List.set_cons_succ, List.set_cons_zero]
              refine wpAnyR_takeY (i := 8) (v := .int .i64 ((i : Int) + 1)) rfl (by kernel_rfl) (by kernel_rfl) (by kernel_rfl) (fun _ _ _ h => h) (Or.inl ⟨by kernel_rfl, ?_⟩) ?_
              · intro W _; go_simp <;> first | omega | (intro; omega) | (simp only [IntKind.wrap_i64]; omega)
              try simp only [Act.put, List.getElem_toArray, List.getElem_cons_succ, List.getElem_cons_zero, List.setIfInBounds_toArray, List.set_cons_succ, List.set_cons_zero]
              refine wpAnyR_takeY (i := 9) (v := .pointer (some ⟨b, i + 1, none⟩)) rfl (by kernel_rfl) (by kernel_rfl) (by kernel_rfl) (fun _ _ _ h => h) (Or.inl ⟨by kernel_rfl, ?_⟩) ?_
              · intro W _; go_simp <;> first | omega | (intro; omega) | (simp only [IntKind.wrap_i64]; omega)
              try simp only [Act.put, List.getElem_toArray, List.getElem_cons_succ, List.getElem_cons_zero, List.setIfInBounds_toArray, List.set_cons_succ, List.set_cons_zero]
              refine wpAnyR_take (i := 10) (v := .int .i64 (x1 : Nat)) rfl (by kernel_rfl) (by kernel_rfl) (by kernel_rfl) (by kernel_rfl) (by kernel_rfl) (fun _ _ _ h => h) (Or.inl ⟨by kernel_rfl, ?_⟩) ⟨rfl, rfl⟩ ?_
              · intro W hSw; obtain ⟨d0, d1, d2, d3⟩ := CI.out W hSw; go_simp
              try simp only [Act.put, List.getElem_toArray, List.getElem_cons_succ, List.getElem_cons_zero, List.setIfInBounds_toArray, List.set_cons_succ, List.set_cons_zero]
              refine wpAnyR_takeY (i := 11) (v := .slice (some ⟨b, 0, none⟩) L2.length c) rfl (by kernel_rfl) (by kernel_rfl) (by kernel_rfl) (fun _ _ _ h => h) (Or.inl ⟨by kernel_rfl, ?_⟩) ?_
              · intro W _; go_simp <;> first | omega | (intro; omega) | (simp only [IntKind.wrap_i64]; omega)
              try simp only [Act.put, List.getElem_toArray, List.getElem_cons_succ, List.getElem_cons_zero, List.setIfInBounds_toArray, List.set_cons_succ, List.set_cons_zero]
              refine wpAnyR_takeY (i := 12) (v := .int .i64 (i : Nat)) rfl (by kernel_rfl) (by kernel_rfl) (by kernel_rfl) (fun _ _ _ h => h) (Or.inl ⟨by kernel_rfl, ?_⟩) ?_
              · intro W _; go_simp <;> first | omega | (intro; omega) | (simp only [IntKind.wrap_i64]; omega)
              try simp only [Act.put, List.getElem_toArray, List.getElem_cons_succ, List.getElem_cons_zero, List.setIfInBounds_toArray, List.set_cons_succ, List.set_cons_zero]
              refine wpAnyR_takeY (i := 13) (v := .int .i64 ((i : Int) + 2)) rfl (by kernel_rfl) (by kernel_rfl) (by kernel_rfl) (fun _ _ _ h => h) (Or.inl ⟨by kernel_rfl, ?_⟩) ?_
              · intro W _; go_simp <;> first | omega | (intro; omega) | (simp only [IntKind.wrap_i64]; omega)
              try simp only [Act.put, List.getElem_toArray, List.getElem_cons_succ, List.getElem_cons_zero, List.setIfInBounds_toArray, List.set_cons_succ, List.set_cons_zero]
              refine wpAnyR_takeY (i := 14) (v := .pointer (some ⟨b, i + 2, none⟩)) rfl (by kernel_rfl) (by kernel_rfl) (by kernel_rfl) (fun _ _ _ h => h) (Or.inl ⟨by kernel_rfl, ?_⟩) ?_
              · intro W _; go_simp; rw [if_pos (by omega), show ((i : Int) + 2).toNat = i + 2 by omega]
              try simp only [Act.put, List.getElem_toArray, List.getElem_cons_succ, List.getElem_cons_zero, List.setIfInBounds_toArray, List.set_cons_succ, List.set_cons_zero]
              refine wpAnyR_take (i := 15) (v := .int .i64 (x2 : Nat)) rfl (by kernel_rfl) (by kernel_rfl) (by kernel_rfl) (by kernel_rfl) (by kernel_rfl) (fun _ _ _ h => h) (Or.inl ⟨by kernel_rfl, ?_⟩) ⟨rfl, rfl⟩ ?_
              · intro W hSw; obtain ⟨d0, d1, d2, d3⟩ := CI.out W hSw; go_simp
              try simp only [Act.put, List.getElem_toArray, List.getElem_cons_succ, List.getElem_cons_zero, List.setIfInBounds_toArray, List.set_cons_succ, List.set_cons_zero]
              refine wpAnyR_takeY (i := 16) (v := .agg #[.int .i64 (x0 : Nat), .int .i64 (x1 : Nat), .int .i64 (x2 : Nat)]) rfl (by kernel_rfl) (by kernel_rfl) (by kernel_rfl) (fun _ _ _ h => h) (Or.inl ⟨by kernel_rfl, ?_⟩) ?_
              · intro W _; go_simp <;> first | omega | (intro; omega) | (simp only [IntKind.wrap_i64]; omega)
              try simp only [Act.put, List.getElem_toArray, List.getElem_cons_succ, List.getElem_cons_zero, List.setIfInBounds_toArray, List.set_cons_succ, List.set_cons_zero]
              refine wpAnyR_one (i := 17) (by kernel_rfl) rfl (fun K hK => ?_)
              go_simp
              refine hK.out _ _ (.inr fun _ => HSB.out) ?_
              clear hK K
              try simp only [Act.put, List.getElem_toArray, List.getElem_cons_succ, List.getElem_cons_zero, List.setIfInBounds_toArray, List.set_cons_succ, List.set_cons_zero]
              refine wpAnyR_one (i := 18) (by kernel_rfl) rfl (fun K hK => ?_)
              rw [if_pos (by rfl)]
              refine append_tier_wp _ _ rfl w.heap.size (.slice A0 ts.length c0) ts rfl HRS4.out.own wr.heap.size (x0, x1, x2) rfl (heap_alloc_new wr.drew _) HTS.out HRS4.out.below.size ?_
              intro v6 w6 ho6 hg6
              obtain ⟨A6, c6, rfl⟩ := ho6.form
              have HRS6 := Lib.hid (HRS4.out.grown ho6 hg6)
              obtain ⟨y0, y1, y2⟩ := box3 ((HRS4.out.old hg6 HRS4.out.box (by decide)).trans HRS4.out.box)
              obtain ⟨f0, f1, f2⟩ := thaw3 ((HRS4.out.old hg6 HRS4.out.box (by decide)).trans HRS4.out.box)
              have HS6 := Lib.hid (show w6.heap[b]? = wr.heap[b]? ∧ w6.heap[g]? = wr.heap[g]? from ⟨(HRS4.out.old hg6 (HSB.out.1.trans HCUR.out) (by decide)).trans HSB.out.1, (HRS4.out.old hg6 HRS4.out.box (by decide)).trans HSB.out.2⟩)
              refine hK.out _ _ (.inr fun _ => HS6.out) ?_
              clear hK K ho6 hg6
              try simp only [Act.put, List.getElem_toArray, List.getElem_cons_succ, List.getElem_cons_zero, List.setIfInBounds_toArray, List.set_cons_succ, List.set_cons_zero]
              refine wpAnyR_takeY (i := 19) (v := .pointer (some ⟨g, 0, none⟩)) rfl (by kernel_rfl) (by kernel_rfl) (by kernel_rfl) (fun _ _ _ h => h) (Or.inl ⟨by kernel_rfl, ?_⟩) ?_
              · intro W _; go_simp
              try simp only [Act.put, List.getElem_toArray, List.getElem_cons_succ, List.getElem_cons_zero, List.setIfInBounds_toArray, List.set_cons_succ, List.set_cons_zero]
              refine wpAnyR_one (i := 20) (by kernel_rfl) rfl (fun K hK => ?_)
              go_simp
              refine hK.out _ _ (.inl rfl) ?_
              clear hK K
              try simp only [Act.put, List.getElem_toArray, List.getElem_cons_succ, List.getElem_cons_zero, List.setIfInBounds_toArray, List.set_cons_succ, List.set_cons_zero]
              refine wpAnyR_done (by kernel_rfl) ?_ _
              go_wp2_with fail
              go_roundw
              case rel =>
                rw [show (ts ++ [(x0, x1, x2)]).length = ts.length + 1 by simp] at HRS6
                exact ⟨i + 3, k + 1, _, by go_num, Lib.hid (by have := hik.out; omega), hk1, by rw [HK1.out]; exact HRS6⟩
              case measure => simp [intOf]; omega
            · have hk2 : k = (tri L2).length := by have := HTL.out; have := hik.out; omega
              have hnd : decide ((i : Int) + 2 < L2.length) = false := decide_eq_false (by omega)
              have hnN : decide (i + 2 < L2.length) = false := decide_eq_false h
              have hib : i ≤ 100000000 := by have := HTL.out; have := hik.out; omega
              have HRE := Lib.hid (show RP w wr g v (tri L2) l M A L2 by have h1 := hrp.out; rw [hk2, List.take_length] at h1; exact h1)
              clear hrp hk hk2 hik HTL
              generalize tri L2 = ts at *
              have hcs := HCO.out
              subst hcs
              clear HCO
              obtain ⟨A0, c0, rfl⟩ := HRE.out.own.form
              have a4 := rtext_any A0 ts.length c0 (tierAt ts) l M wr (tiers_own HRE.out.own)
              unfold feeV at a4
              obtain ⟨x0, x1, x2⟩ := box3 HRE.out.box
              have hgw := HRE.out.gt
              go_wp2_with fail
              refine a4.mono ?_
              clear a4 x0 x1 x2
              rintro e w5 ⟨rfl, hb5⟩
              have HR5 := Lib.hid ((HRE.out.step hb5).res)
              have HX5 := Lib.hid ((HRE.out.step hb5).box)
              have HO5 := Lib.hid ((HRE.out.step hb5).own)
              have HB5 := Lib.hid ((HRE.out.step hb5).below)
              clear hb5 HRE
              cases hG : goodB ts.length (tierAt ts) l M with
              | false =>
                have HN := Lib.hid (show parseF s = none by rw [HC.out]; exact if_neg fun h => by rw [hG] at h; cases h.1)
                rw [show txtN ts.length (tierAt ts) l M = .tuple #[.string ⟨#[]⟩, .int .i64 7] by unfold txtN; rw [hG]; rfl]
                clear hG HC HX5 HO5
                obtain ⟨q0, q1, q2⟩ := box3 HR5.out
                obtain ⟨z0, z1, z2⟩ := thaw3 HR5.out
                go_wp2_with fail
                have hres := heap_set_at (heap_set_at (heap_set_at HR5.out (i := 0) (.slice none 0 0)) (i := 1) (.int .i64 0)) (i := 2) (.int .i64 0)
                obtain ⟨r0, r1, r2⟩ := box3 hres
                refine bodyPost_ret (by simp [results, go_sem, r0, r1, r2]; rfl) rfl ?_
                exact ⟨((HB5.out.setCell (p := ⟨w.heap.size, 0, none⟩) (Nat.le_refl _) _).setCell (p := ⟨w.heap.size, 1, none⟩) (Nat.le_refl _) _).setCell (p := ⟨w.heap.size, 2, none⟩) (Nat.le_refl _) _, .inr ⟨HN.out, rfl⟩⟩
              | true =>
                rw [show txtN ts.length (tierAt ts) l M = .tuple #[.string ⟨(feeTxt ts.length (tierAt ts) l M).toArray⟩, .int .i64 0] by unfold txtN; rw [if_pos hG]]
                have HPF := Lib.hid (show feeTxt ts.length (tierAt ts) l M = s.data.toList → parseF s = some (ts, l, M) from fun h => by rw [HC.out]; exact if_pos ⟨hG, h⟩)
                have HPN := Lib.hid (show ¬ feeTxt ts.length (tierAt ts) l M = s.data.toList → parseF s = none from fun h => by rw [HC.out]; exact if_neg fun h2 => h h2.2)
                have hx : (⟨(feeTxt ts.length (tierAt ts) l M).toArray⟩ : ByteArray).toList = feeTxt ts.length (tierAt ts) l M := by rw [bytes_toList]
                generalize (⟨(feeTxt ts.length (tierAt ts) l M).toArray⟩ : ByteArray) = x at *
                generalize feeTxt ts.length (tierAt ts) l M = F at *
                have HXX := Lib.hid hx
                clear hG hx HC
                cases k : (x.toList == s.toList) with
                | false =>
                  have HN := Lib.hid (HPN.out (by rw [← HXX.out, ← bytes_toList]; exact ne_of_beq_false k))
                  have k2 : (x.toList != s.toList) = true := by unfold bne; rw [k]; rfl
                  obtain ⟨q0, q1, q2⟩ := box3 HR5.out
                  obtain ⟨z0, z1, z2⟩ := thaw3 HR5.out
                  go_wp2_with fail
                  have hres := heap_set_at (heap_set_at (heap_set_at HR5.out (i := 0) (.slice none 0 0)) (i := 1) (.int .i64 0)) (i := 2) (.int .i64 0)
                  obtain ⟨r0, r1, r2⟩ := box3 hres
                  refine bodyPost_ret (by simp [results, go_sem, r0, r1, r2]; rfl) rfl ?_
                  exact ⟨((HB5.out.setCell (p := ⟨w.heap.size, 0, none⟩) (Nat.le_refl _) _).setCell (p := ⟨w.heap.size, 1, none⟩) (Nat.le_refl _) _).setCell (p := ⟨w.heap.size, 2, none⟩) (Nat.le_refl _) _, .inr ⟨HN.out, rfl⟩⟩
                | true =>
                  have HS := Lib.hid (HPF.out (by rw [← HXX.out, ← bytes_toList]; exact eq_of_beq k))
                  have k2 : (x.toList != s.toList) = false := by unfold bne; rw [k]; rfl
                  obtain ⟨q0, q1, q2⟩ := box3 HR5.out
                  obtain ⟨z0, z1, z2⟩ := thaw3 HR5.out
                  obtain ⟨x0, x1, x2⟩ := box3 HX5.out
                  go_wp2_with fail
                  have hres := heap_set_at (heap_set_at (heap_set_at HR5.out (i := 0) (.slice A0 ts.length c0)) (i := 1) (.int .i64 l)) (i := 2) (.int .i64 M)
                  obtain ⟨r0, r1, r2⟩ := box3 hres
                  refine bodyPost_ret (by simp [results, go_sem, r0, r1, r2]; rfl) rfl ?_
                  refine ⟨((HB5.out.setCell (p := ⟨w.heap.size, 0, none⟩) (Nat.le_refl _) _).setCell (p := ⟨w.heap.size, 1, none⟩) (Nat.le_refl _) _).setCell (p := ⟨w.heap.size, 2, none⟩) (Nat.le_refl _) _, .inl ⟨ts, l, M, A0, c0, HS.out, ?_, rfl⟩⟩
                  exact own_set (own_set (own_set HO5.out HR5.out (by decide) _) (heap_set_at HR5.out _) (by decide) _) (heap_set_at (heap_set_at HR5.out _) _) (by decide) _
end Go.Proofs.YtikkocdbaekjmaaGreatDoor
