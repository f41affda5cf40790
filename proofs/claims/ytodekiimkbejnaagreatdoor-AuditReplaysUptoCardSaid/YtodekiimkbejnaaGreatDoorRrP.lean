/- remitref28.Replay: laws. -/
import Derived.Test.YtodekiimkbejnaaGreatDoorRchW
import Derived.Test.YtodekiimkbejnaaGreatDoorJoinsV
import Derived.Laws.OwnMore
namespace Go.Proofs.YtodekiimkbejnaaGreatDoor
open Go Go.RowKit Go.WideMaps Go.Maps Go.Sort

/-! ### append, out of whatever cells -/
theorem ownsRow_prefix {w : World} {B g z n cap k : Nat} {e : TypeId} {xs : List Value} (h : w.ownsRow B e z (.slice (some ⟨g, 0, none⟩) n cap) n xs) (hk : k ≤ n) : w.ownsRow B e z (.slice (some ⟨g, 0, none⟩) k cap) k (xs.take (k * z)) := by
  have hl := h.1
  have hkz : k * z ≤ n * z := Nat.mul_le_mul_right z hk
  rcases h.2 with ⟨h', _⟩ | ⟨g', cap', cur, h', hb, hg, hnc, hcm, hcs, htake⟩
  · cases h'
  · cases h'
    refine ⟨by rw [List.length_take, hl]; omega, .inr ⟨g, cap, cur, rfl, hb, hg, Nat.le_trans hk hnc, hcm, hcs, ?_⟩⟩
    rw [← htake, List.take_take, Nat.min_eq_left hkz]
section
variable {P : Program} {w : World} {ops : Array Oper} {rest : List Oper} {o : Oper} {a : Act} {Q : Exit → Act → World → Prop}
theorem wpList_append_src (hgd : o.guard = none) (s x : Operand) (t : TypeId)
    (ho : o.op = .call { callee := .builtin .append, args := #[s, x], argTypes := #[t, t] })
    (base : Nat) (e : TypeId) (i : TypeInfo) (z : Value) (size bytes : Nat) (ht : P.underlying t = some (.slice e)) (hi : P.info? e = some i) (hz : i.zero = some z)
    (hsize : i.size = size) (hby : i.bytes = bytes) (hzs : z.cells.size = size) (hsz : 0 < size)
    (g n cap : Nat) (xs : List Value) (hs : a.eval s = .slice (some ⟨g, 0, none⟩) n cap) (hown : w.ownsRow base e size (.slice (some ⟨g, 0, none⟩) n cap) n xs)
    (ao : Option Addr) (m c : Nat) (ys : List Value) (hx : a.eval x = .slice ao m c) (hl : ys.length = m * size) (hsrc : 0 < m → ∃ ad, ao = some ad ∧ ∀ j u, ys[j]? = some u → w.cell? (ad.add j) = some u) (h1 : ∀ y ∈ ys, y.oneCell' = true)
    (h63 : n + m ≤ maxLen) (hbytes : (n + m) * bytes ≤ 140737488355328) (hbase : base ≤ w.heap.size)
    (h : ∀ g' cap' w', w'.ownsRow base e size (.slice (some ⟨g', 0, none⟩) (n + m) cap') (n + m) (xs ++ ys) → w.grownBy w' (some g) → (g' = g ∨ g' = w.heap.size) → wpList P ops Q rest (a.put o.dst (.slice (some ⟨g', 0, none⟩) (n + m) cap')) w') :
    wpList P ops Q (o :: rest) a w := by
  rcases Nat.eq_zero_or_pos m with h0 | h0
  · subst h0
    have hys : ys = [] := List.length_eq_zero_iff.1 (by omega)
    subst hys
    have hcap := (ownsRow_shape hown)
    obtain ⟨ao', cap2, e', hn⟩ := hcap
    cases e'
    have hsr : Src P i.size t (.slice ao 0 c) 0 [] w := by
      cases ao with
      | none => exact Src.ofNil w ht c
      | some ad => exact Src.ofSlice w ht ad 0 c [] (by simp) (by simp) (by simp)
    have hr := run_append_nothing w t t o.type e i ht hi (some ⟨g, 0, none⟩) n cap hn _ hsr
    refine wpList_plain hgd fun _ hK => ?_
    unfold Oper.wp execOp
    simp only [ho, resolve, invoke, builtin, Sem.run_bind, Sem.run_pure, Result.andThen_ok, List.map_toArray, List.map_cons, List.map_nil, hs, hx, hr]
    exact hK _ _ (h g cap w (by simpa using hown) ⟨rfl, rfl, rfl, Nat.le_refl _, fun _ _ _ => rfl⟩ (.inl rfl))
  · obtain ⟨ad, rfl, hc⟩ := hsrc h0
    exact wpList_append_lies w hgd s x t ho base e i z size bytes ht hi hz hsize hby hzs hsz _ n xs hs hown ad m c ys hx hl hc h1 h0 h63 hbytes hbase _ rfl
      fun g' cap' w' h2 h3 h4 _ => h g' cap' w' h2 h3 (by
        rcases h4 with h4 | h4
        · exact .inl (Option.some.inj (show some g = some g' from h4)).symm
        · exact .inr h4)
end

/-! ### the sums, put in their place -/
theorem list_eq_of_sorted {l l' : List (List UInt8)} (h : l.Pairwise (· < ·)) (h' : l'.Pairwise (· < ·)) (hm : ∀ x, x ∈ l ↔ x ∈ l') : l = l' := by
  have irr : ∀ a b : List UInt8, a < b → a ≠ b := fun a b hab e => by subst e; exact absurd hab (List.lt_irrefl a)
  have n1 : l.Nodup := h.imp fun {a b} hab => irr a b hab
  have n2 : l'.Nodup := h'.imp fun {a b} hab => irr a b hab
  refine List.Perm.eq_of_pairwise (le := fun a b => a < b) (fun a b _ _ h1 h2 => absurd (List.lt_trans h1 h2) (List.lt_irrefl a)) h h' ((List.perm_ext_iff_of_nodup n1 n2).2 hm)
theorem sortedKeys_lt {D : DataW Unit} (hS : StrMap D) : (sortedKeys D).Pairwise (· < ·) := by
  have tr : ∀ a b c : List UInt8, leB a b = true → leB b c = true → leB a c = true := fun a b c h1 h2 => by simp only [leB, decide_eq_true_eq] at *; exact List.le_trans h1 h2
  have to : ∀ a b : List UInt8, (leB a b || leB b a) = true := fun a b => by simp only [leB, Bool.or_eq_true, decide_eq_true_eq]; exact List.le_total a b
  have hp := List.pairwise_mergeSort tr to (strKeys D)
  have hn : (sortedKeys D).Nodup := (List.mergeSort_perm _ _).nodup_iff.2 (nodup_strKeys hS)
  refine List.Pairwise.imp₂ (fun a b h1 h2 => ?_) hp hn
  simp only [leB, decide_eq_true_eq] at h1
  by_cases h3 : a < b
  · exact h3
  · exact absurd (List.le_antisymm h1 (List.not_lt.1 h3)) h2
theorem mem_sorted {D : DataW Unit} (hS : StrMap D) (x : List UInt8) : x ∈ sortedKeys D ↔ has D (.string x) = true := by rw [mem_sortedKeys, mem_strKeys hS]
theorem sortedKeys_old {D : DataW Unit} (hS : StrMap D) {t : List UInt8} (h : has D (.string t) = true) (d : DataW Unit) : sortedKeys (D.put (.string t) d) = sortedKeys D := by
  refine list_eq_of_sorted (sortedKeys_lt (hS.put t d)) (sortedKeys_lt hS) fun x => ?_
  rw [mem_sorted (hS.put t d), mem_sorted hS]
  by_cases e : x = t
  · subst e; rw [has_put_same hS.isMap (k := .string _) trivial, h]
  · rw [has_put_other (by intro e'; injection e' with e'; exact e e')]
theorem sortedKeys_new {D : DataW Unit} (hS : StrMap D) {t : List UInt8} (d : DataW Unit) (k : Nat) (h1 : ∀ i, i < k → (sortedKeys D).getD i [] < t) (hk : k ≤ (sortedKeys D).length) (h2 : ∀ i, k ≤ i → i < (sortedKeys D).length → t < (sortedKeys D).getD i []) :
    sortedKeys (D.put (.string t) d) = (sortedKeys D).take k ++ t :: (sortedKeys D).drop k := by
  have hlt := sortedKeys_lt hS
  have m1 : ∀ x ∈ (sortedKeys D).take k, x < t := fun x hx => by
    obtain ⟨i, hi, e⟩ := List.getElem_of_mem hx
    have hi' : i < k := by rw [List.length_take] at hi; omega
    have := h1 i hi'
    rw [List.getElem_take] at e
    rw [List.getD, List.getElem?_eq_getElem (by omega)] at this
    simp only [Option.getD_some] at this
    rw [e] at this; exact this
  have m2 : ∀ x ∈ (sortedKeys D).drop k, t < x := fun x hx => by
    obtain ⟨i, hi, e⟩ := List.getElem_of_mem hx
    rw [List.length_drop] at hi
    have := h2 (k + i) (by omega) (by omega)
    rw [List.getElem_drop] at e
    rw [List.getD, List.getElem?_eq_getElem (by omega)] at this
    simp only [Option.getD_some] at this
    rw [e] at this; exact this
  refine list_eq_of_sorted (sortedKeys_lt (hS.put t d)) ?_ fun x => ?_
  · refine List.pairwise_append.2 ⟨hlt.sublist (List.take_sublist _ _), List.pairwise_cons.2 ⟨m2, hlt.sublist (List.drop_sublist _ _)⟩, fun a ha b hb => ?_⟩
    rcases List.mem_cons.1 hb with rfl | hb
    · exact m1 a ha
    · exact List.lt_trans (m1 a ha) (m2 b hb)
  · rw [mem_sorted (hS.put t d)]
    have hx : x ∈ sortedKeys D ↔ x ∈ (sortedKeys D).take k ∨ x ∈ (sortedKeys D).drop k := by
      rw [← List.mem_append, List.take_append_drop]
    rw [mem_sorted hS] at hx
    by_cases e : x = t
    · subst e
      rw [has_put_same hS.isMap (k := .string _) trivial]
      simp
    · rw [has_put_other (by intro e'; injection e' with e'; exact e e'), hx]
      simp [e]
theorem legCells_congr {D E : DataW Unit} : ∀ (K : List (List UInt8)), (∀ x ∈ K, numAt D (.string x) = numAt E (.string x)) → legCells D K = legCells E K
  | [], _ => rfl
  | s :: r, h => by simp only [legCells, h s (by simp), legCells_congr r fun x hx => h x (by simp [hx])]
theorem legCells_old {D : DataW Unit} (hS : StrMap D) {k : Nat} (hk : k < (sortedKeys D).length) (v : Int) :
    legCells (D.put (.string ((sortedKeys D).getD k [])) (.lit (.int .i64 v))) (sortedKeys D) = (legCells D (sortedKeys D)).set (k * 2 + 1) (.int .i64 v) := by
  have key : ∀ (K : List (List UInt8)) (k : Nat) (t : List UInt8), K.Nodup → k < K.length → t = K.getD k [] → legCells (D.put (.string t) (.lit (.int .i64 v))) K = (legCells D K).set (k * 2 + 1) (.int .i64 v) := by
    intro K
    induction K with
    | nil => intro k t _ h _; simp at h
    | cons s r ih =>
      intro k t hn hk ht
      obtain ⟨hn1, hn2⟩ := List.nodup_cons.1 hn
      cases k with
      | zero =>
        simp only [List.getD_cons_zero] at ht
        subst ht
        simp only [legCells, numAt_put_same hS.isMap]
        rw [legCells_congr (D := D.put (.string t) (.lit (.int .i64 v))) (E := D) r fun x hx => numAt_put_other (by intro e; injection e with e; subst e; exact hn1 hx) _]
        rfl
      | succ k =>
        simp only [List.getD_cons_succ] at ht
        have hne : s ≠ t := fun e => by
          subst e
          have : s ∈ r := by
            rw [ht]
            have hk' : k < r.length := by simpa using hk
            rw [List.getD, List.getElem?_eq_getElem hk']
            simp
          exact hn1 this
        rw [show (k + 1) * 2 + 1 = (k * 2 + 1) + 1 + 1 by omega]
        simp only [legCells, List.set_cons_succ]
        rw [ih k t hn2 (by simpa using hk) ht, numAt_put_other (by intro e; injection e with e; exact hne e)]
  exact key _ k _ ((sortedKeys_lt hS).imp fun {a b} hab e => by subst e; exact absurd hab (List.lt_irrefl a)) hk rfl
theorem legCells_new {D : DataW Unit} (hS : StrMap D) {t : List UInt8} (ht : has D (.string t) = false) (k : Nat) (hk : k ≤ (sortedKeys D).length) (v : Int) :
    legCells (D.put (.string t) (.lit (.int .i64 v))) ((sortedKeys D).take k ++ t :: (sortedKeys D).drop k) = ((legCells D (sortedKeys D)).take (k * 2) ++ [Value.string ⟨t.toArray⟩, Value.int .i64 0] ++ (legCells D (sortedKeys D)).drop (k * 2)).set (k * 2 + 1) (.int .i64 v) := by
  have hne : ∀ x ∈ sortedKeys D, x ≠ t := fun x hx e => by subst e; rw [mem_sorted hS, ht] at hx; cases hx
  have key : legCells D (sortedKeys D) = legCells D ((sortedKeys D).take k) ++ legCells D ((sortedKeys D).drop k) := by rw [← legCells_append, List.take_append_drop]
  have e1 : legCells (D.put (.string t) (.lit (.int .i64 v))) ((sortedKeys D).take k) = (legCells D (sortedKeys D)).take (k * 2) := by
    rw [legCells_congr (E := D) _ fun x hx => numAt_put_other (by intro e; injection e with e; exact hne x (List.mem_of_mem_take hx) e) _]
    have hl : (legCells D ((sortedKeys D).take k)).length = k * 2 := by rw [legCells_length, List.length_take]; omega
    rw [key, List.take_append_of_le_length (by omega)]
    exact (List.take_of_length_le (by omega)).symm
  have e2 : legCells (D.put (.string t) (.lit (.int .i64 v))) ((sortedKeys D).drop k) = (legCells D (sortedKeys D)).drop (k * 2) := by
    rw [legCells_congr (E := D) _ fun x hx => numAt_put_other (by intro e; injection e with e; exact hne x (List.mem_of_mem_drop hx) e) _]
    have hl : (legCells D ((sortedKeys D).take k)).length = k * 2 := by rw [legCells_length, List.length_take]; omega
    rw [key, List.drop_append_of_le_length (by omega)]
    have e0 : (legCells D ((sortedKeys D).take k)).drop (k * 2) = [] := List.drop_of_length_le (by omega)
    rw [e0, List.nil_append]
  have hl : ((legCells D (sortedKeys D)).take (k * 2)).length = k * 2 := by rw [List.length_take, legCells_length]; omega
  rw [legCells_append, e1]
  simp only [legCells, e2, numAt_put_same hS.isMap, List.append_assoc]
  rw [List.set_append_right _ _ (by omega), show k * 2 + 1 - ((legCells D (sortedKeys D)).take (k * 2)).length = 1 by omega]
  rfl

/-- The leg's place among the sums: what is left to do there. -/
structure Tl (E : DataW Unit) (a : ByteArray) (q len2 : Nat) (C : List Value) : Prop where
  lt : q < len2
  amt : C[q * 2 + 1]? = some (.int .i64 (numAt E (kl a)))
  len : len2 ≤ (sortedKeys E).length + 1
  fin : ∀ s, (sortedKeys (E.put (kl a) (.lit (.int .i64 s)))).length = len2 ∧ legCells (E.put (kl a) (.lit (.int .i64 s))) (sortedKeys (E.put (kl a) (.lit (.int .i64 s)))) = C.set (q * 2 + 1) (.int .i64 s)
theorem tl_old {E : DataW Unit} (hG : Good E) {a : ByteArray} {q : Nat} (hq : q < (sortedKeys E).length) (e : (sortedKeys E).getD q [] = a.data.toList) : Tl E a q (sortedKeys E).length (legCells E (sortedKeys E)) := by
  have hh : has E (.string a.data.toList) = true := by
    rw [← mem_sorted hG.str, ← e]
    simp [List.getD, List.getElem?_eq_getElem hq]
  have hk : kl a = .string a.data.toList := rfl
  refine ⟨hq, ?_, by omega, fun s => ?_⟩
  · rw [(legCells_at E (sortedKeys E) q hq).2, e, hk]
  · rw [hk, sortedKeys_old hG.str hh]
    refine ⟨rfl, ?_⟩
    have := legCells_old hG.str hq s
    rw [e] at this
    exact this
theorem tl_new {E : DataW Unit} (hG : Good E) {a : ByteArray} {q : Nat} (hq : q ≤ (sortedKeys E).length) (h1 : ∀ i, i < q → (sortedKeys E).getD i [] < a.data.toList) (h2 : q < (sortedKeys E).length → a.data.toList < (sortedKeys E).getD q []) :
    Tl E a q ((sortedKeys E).length + 1) ((legCells E (sortedKeys E)).take (q * 2) ++ [Value.string ⟨a.data.toList.toArray⟩, Value.int .i64 0] ++ (legCells E (sortedKeys E)).drop (q * 2)) := by
  have hl := sortedKeys_lt hG.str
  have h3 : ∀ i, q ≤ i → i < (sortedKeys E).length → a.data.toList < (sortedKeys E).getD i [] := fun i h4 h5 => by
    by_cases e : i = q
    · subst e; exact h2 h5
    · have := List.pairwise_iff_getElem.1 hl q i (by omega) h5 (by omega)
      have h6 := h2 (by omega)
      have hq' : q < (sortedKeys E).length := by omega
      simp only [List.getD, List.getElem?_eq_getElem hq', List.getElem?_eq_getElem h5, Option.getD_some] at h6 ⊢
      exact List.lt_trans h6 this
  have hk : kl a = .string a.data.toList := rfl
  have hh : has E (.string a.data.toList) = false := by
    cases e : has E (.string a.data.toList) with
    | false => rfl
    | true =>
      rw [← mem_sorted hG.str] at e
      obtain ⟨i, hi, ei⟩ := List.getElem_of_mem e
      have hi' : (sortedKeys E).getD i [] = a.data.toList := by simp [List.getD, List.getElem?_eq_getElem hi, ei]
      by_cases hlt : i < q
      · have := h1 i hlt; rw [hi'] at this; exact absurd this (List.lt_irrefl _)
      · have := h3 i (by omega) hi; rw [hi'] at this; exact absurd this (List.lt_irrefl _)
  have hl2 : ((legCells E (sortedKeys E)).take (q * 2)).length = q * 2 := by rw [List.length_take, legCells_length]; omega
  refine ⟨by omega, ?_, by omega, fun s => ?_⟩
  · rw [List.append_assoc, List.getElem?_append_right (by omega), show q * 2 + 1 - ((legCells E (sortedKeys E)).take (q * 2)).length = 1 by omega, hk, numAt_not hh]; rfl
  · rw [hk, sortedKeys_new hG.str _ q h1 hq h3]
    refine ⟨by simp; omega, legCells_new hG.str hh q hq s⟩
/-- A text against a text, as the reference asks. -/
theorem less_eq (x : List UInt8) (a : ByteArray) : Op.bytesLess (⟨x.toArray⟩ : ByteArray).toList a.toList = decide (x < a.data.toList) := by
  rw [toList_eq, toList_eq, bytesLess_eq]
theorem same_eq (x : List UInt8) (a : ByteArray) : ((⟨x.toArray⟩ : ByteArray).toList == a.toList) = decide (x = a.data.toList) := by
  rw [toList_eq, toList_eq, Bool.eq_iff_iff]; simp
theorem bytes_eta (a : ByteArray) : (⟨a.data.toList.toArray⟩ : ByteArray) = a := by
  obtain ⟨⟨l⟩⟩ := a; rfl
end Go.Proofs.YtodekiimkbejnaaGreatDoor
