/- remitref16.Check: laws. -/
import Derived.Test.YtodekiimkbejnaaGreatDoorRac
import Derived.Test.YtodekiimkbejnaaGreatDoorSumW
import Derived.Test.YtodekiimkbejnaaGreatDoorJoinsL
namespace Go.Proofs.YtodekiimkbejnaaGreatDoor
open Go.RowKit Go.WideMaps Go.Maps

/-- What the reference's Check answers: 0 just where the posting is good. -/
def RChk (ok : Bool) (w : World) (e : Ending) (w' : World) : Prop := (∃ n : Int, e = .returned (.int .i64 n) ∧ (n == 0) = ok) ∧ Below w.heap.size w w'
theorem RChk.bad {ok : Bool} {w w' : World} {e : Ending} (n : Int) (h : e = .returned (.int .i64 n)) (hn : (n == 0) = false) (ho : ok = false) (hb : Below w.heap.size w w') : RChk ok w e w' := ⟨⟨n, h, by rw [hn, ho]⟩, hb⟩
theorem RChk.good {ok : Bool} {w w' : World} {e : Ending} (h : e = .returned (.int .i64 0)) (ho : ok = true) (hb : Below w.heap.size w w') : RChk ok w e w' := ⟨⟨0, h, by rw [ho]; rfl⟩, hb⟩

/-- No two of the first k accounts are one. -/
def apart (lg : Nat → LegV) (k : Nat) : Prop := ∀ i, i < k → ∀ j, j < i → ((lg i).a.toList == (lg j).a.toList) = false
theorem seenD_map (lg : Nat → LegV) : ∀ k, StrMap (seenD lg k)
  | 0 => .empty
  | k + 1 => (seenD_map lg k).put _ _
theorem seenD_has (lg : Nat → LegV) (x : List UInt8) : ∀ k, has (seenD lg k) (.string x) = true ↔ ∃ j, j < k ∧ (lg j).a.data.toList = x
  | 0 => by constructor
            · intro h; cases h
            · rintro ⟨j, h, _⟩; omega
  | k + 1 => by
    show has ((seenD lg k).put (kl (lg k).a) _) (.string x) = true ↔ _
    by_cases e : Lit.string x = kl (lg k).a
    · have ex : x = (lg k).a.data.toList := by unfold kl at e; injection e
      rw [e]
      unfold kl
      rw [has_put_same (seenD_map lg k).isMap (k := .string _) trivial]
      exact ⟨fun _ => ⟨k, by omega, ex.symm⟩, fun _ => rfl⟩
    · rw [has_put_other e, seenD_has lg x k]
      constructor
      · rintro ⟨j, h1, h2⟩; exact ⟨j, by omega, h2⟩
      · rintro ⟨j, h1, h2⟩
        refine ⟨j, ?_, h2⟩
        by_cases hj : j = k
        · subst hj; exact absurd (by unfold kl; rw [h2]) e
        · omega
theorem seenD_size (lg : Nat → LegV) : ∀ k, Maps.size (seenD lg k) ≤ k ∧ (Maps.size (seenD lg k) = k ↔ apart lg k)
  | 0 => ⟨Nat.le_refl _, fun _ i hi => by omega, fun _ => rfl⟩
  | k + 1 => by
    obtain ⟨h1, h2⟩ := seenD_size lg k
    obtain ⟨es, e1, e2, _⟩ := seenD_map lg k
    have hs := size_put (D := seenD lg k) ⟨es, e1, e2⟩ (k := kl (lg k).a) (.lit (.int .i64 (wrap64 (numAt (seenD lg k) (kl (lg k).a) + 1))))
    have hs : Maps.size (seenD lg (k + 1)) = if has (seenD lg k) (kl (lg k).a) = true then Maps.size (seenD lg k) else Maps.size (seenD lg k) + 1 := hs
    have hh := seenD_has lg (lg k).a.data.toList k
    have hh : has (seenD lg k) (kl (lg k).a) = true ↔ ∃ j, j < k ∧ (lg j).a.data.toList = (lg k).a.data.toList := hh
    by_cases hc : has (seenD lg k) (kl (lg k).a) = true
    · rw [if_pos hc] at hs
      rw [hs]
      refine ⟨by omega, fun e => by omega, fun h => ?_⟩
      obtain ⟨j, hj, ej⟩ := hh.1 hc
      have := h k (by omega) j hj
      rw [ByteArray.toList_eq, ByteArray.toList_eq, ej, beq_self_eq_true] at this
      cases this
    · rw [if_neg hc] at hs
      rw [hs]
      refine ⟨by omega, fun e i hi j hj => ?_, fun h => ?_⟩
      · by_cases ei : i = k
        · subst ei
          rw [ByteArray.toList_eq, ByteArray.toList_eq]
          exact beq_eq_false_iff_ne.2 fun e' => hc (hh.2 ⟨j, hj, e'.symm⟩)
        · exact h2.1 (by omega) i (by omega) j hj
      · have := h2.2 fun i hi j hj => h i (by omega) j hj
        omega
theorem sumL_sumF (lg : Nat → LegV) : ∀ k, sumL lg k = sumF (fun i => (lg i).x) k
  | 0 => rfl
  | k + 1 => by show sumL lg k + _ = sumF _ k + _; rw [sumL_sumF lg k]
/-- The cells of the first k amounts. -/
def amtsL (lg : Nat → LegV) : Nat → List Value
  | 0 => []
  | k + 1 => amtsL lg k ++ [.int .i64 (lg k).x]
theorem amtsL_length (lg : Nat → LegV) : ∀ k, (amtsL lg k).length = k
  | 0 => rfl
  | k + 1 => by simp [amtsL, amtsL_length lg k]
theorem amtsL_at (lg : Nat → LegV) : ∀ k i, i < k → (amtsL lg k)[i]? = some (.int .i64 (lg i).x)
  | 0, i, h => by omega
  | k + 1, i, h => by
    have hl := amtsL_length lg k
    by_cases e : i = k
    · subst e
      simp only [amtsL]
      rw [List.getElem?_append_right (by omega), show i - (amtsL lg i).length = 0 by omega]; rfl
    · simp only [amtsL]
      rw [List.getElem?_append_left (by omega)]; exact amtsL_at lg k i (by omega)
theorem ints_of_row {w : World} {B n : Nat} {v : Value} {lg : Nat → LegV} (h : w.ownsRow B 2 1 v n (amtsL lg n)) : ∃ A c, v = .slice A n c ∧ IntsAt w A n (fun i => (lg i).x) := by
  rcases h.2 with ⟨rfl, h0⟩ | ⟨g, cap, cur, rfl, hB, hg, hn, hm, hs, ht⟩
  · exact ⟨none, 0, by rw [h0], fun h => by omega⟩
  · have hlt : g < w.heap.size := by
      rcases Nat.lt_or_ge g w.heap.size with hlt | hge
      · exact hlt
      · rw [Array.getElem?_eq_none hge] at hg; cases hg
    refine ⟨_, _, rfl, fun _ => ⟨g, 0, rfl, hlt, fun i hi => ?_⟩⟩
    have c1 := h.cells (g := g) rfl _ _ (amtsL_at lg n i hi)
    rw [add_at] at c1
    rw [Nat.zero_add]
    exact c1
theorem info2 : (Tryz.prog.info? 2).map (fun i => (i.zero, i.size, i.bytes)) = some (some (.int .i64 0), 1, 8) := by kernel_rfl
section
variable {w : World} {ops : Array Oper} {rest : List Oper} {o : Oper} {a : Act} {Q : Exit → Act → World → Prop}
/-- One amount behind. -/
theorem append_amt (hgd : o.guard = none) (s x : Operand)
    (ho : o.op = .call { callee := .builtin .append, args := #[s, x], argTypes := #[52, 52] })
    (B n : Nat) (v : Value) (xs : List Value) (hs : a.eval s = v) (hown : w.ownsRow B 2 1 v n xs) (c : Int) (hx : a.eval x = .slice (some ⟨w.heap.size, 0, none⟩) 1 1)
    (hlen : n + 1 ≤ 4398046511104) (hbase : B ≤ w.heap.size)
    (h : ∀ k cap w', w'.ownsRow B 2 1 (.slice (some ⟨k, 0, none⟩) (n + 1) cap) (n + 1) (xs ++ [.int .i64 c]) → w.grownBy w' v.ownBlock → (v.ownBlock = some k ∨ w.heap.size ≤ k) → wpList Tryz.prog ops Q rest (a.put o.dst (.slice (some ⟨k, 0, none⟩) (n + 1) cap)) w') :
    wpList Tryz.prog ops Q (o :: rest) a (w.alloc (.cells #[.int .i64 c] 2)) := by
  obtain ⟨i0, hi0, hz0, hz1, hz2⟩ := info_parts info2
  refine wpList_append_lies _ hgd s x 52 ho B 2 i0 _ 1 8 Tryz.underlying52 hi0 hz0 hz1 hz2 rfl (by decide) v n xs hs (World.ownsRow.alloc hown _) ⟨w.heap.size, 0, none⟩ 1 1 [.int .i64 c] hx rfl (World.news_of_block (heap_alloc_new w _)) ?_ (by omega) (by unfold maxLen; omega) (by omega) (by simp; omega) _ rfl ?_
  · intro u hu
    simp at hu
    rcases hu with rfl; rfl
  · intro k cap w' h1 hg hat _
    refine h k cap w' h1 (World.grownBy.trans (World.grownBy_alloc w _ _) hg) ?_
    rcases hat with h | h
    · exact .inl h
    · right; rw [h]; simp
end
end Go.Proofs.YtodekiimkbejnaaGreatDoor
