/- fees.text of a good schedule: its laws. -/
import Derived.Test.YtikkocdbaekjmaaGreatDoorFeeC
import Derived.Test.YtikkocdbaekjmaaGreatDoorAppRows
import Derived.Test.YtikkocdbaekjmaaGreatDoorShelf
import Derived.Lib.BufferKept
import Derived.Lib.AppendStr
import Derived.Laws.BytesArg
import Derived.Laws.IdiomStrings
namespace Go.Proofs.YtikkocdbaekjmaaGreatDoor
open Go.RowKit

abbrev Tab (w : World) : Prop := Lib.TabIs Tryz.prog w "internal/strconv.uint64pow10" .u64 Lib.pow10Tab
/-- v holds the bytes xs in a row of its own from B on. -/
def Own (w : World) (B : Nat) (v : Value) (xs : List UInt8) : Prop := w.ownsRow B 5 1 v xs.length (Lib.byteCells xs)
theorem byteCells_append (xs ys : List UInt8) : Lib.byteCells (xs ++ ys) = Lib.byteCells xs ++ Lib.byteCells ys := List.map_append
theorem info5 : (Tryz.prog.info? 5).map (fun i => (i.zero, i.size, i.bytes)) = some (some (.int .u8 0), 1, 1) := by kernel_rfl
theorem Own.block {w : World} {B : Nat} {v : Value} {xs : List UInt8} (h : Own w B v xs) : ∀ k, v.ownBlock = some k → B ≤ k ∧ k < w.heap.size ∧ ∃ cur, w.heap[k]? = some (.cells cur 5 (0, 0)) := by
  intro k hk
  rcases h.2 with ⟨rfl, _⟩ | ⟨g, cap, cur, rfl, hB, hg, _⟩
  · cases hk
  · cases hk
    exact ⟨hB, lt_of_block hg, cur, hg⟩
section
variable {w : World} {ops : Array Oper} {rest : List Oper} {o : Oper} {a : Act} {Q : Exit → Act → World → Prop}
theorem append_byte (hgd : o.guard = none) (s x : Operand) (ho : o.op = .call { callee := .builtin .append, args := #[s, x], argTypes := #[73, 73] })
    (B : Nat) (v : Value) (xs : List UInt8) (hs : a.eval s = v) (hown : Own w B v xs) (g : Nat) (c : UInt8) (hx : a.eval x = .slice (some ⟨g, 0, none⟩) 1 1) (hg : w.heap[g]? = some (.cells #[.int .u8 c.toNat] 5 (0, 0)))
    (hlen : xs.length ≤ 1000000) (hB : B ≤ w.heap.size)
    (h : ∀ v' w', Own w' B v' (xs ++ [c]) → w.grownBy w' v.ownBlock → wpList Tryz.prog ops Q rest (a.put o.dst v') w') : wpList Tryz.prog ops Q (o :: rest) a w := by
  obtain ⟨i, hi, hzz⟩ := Option.map_eq_some_iff.1 info5
  simp only [Prod.mk.injEq] at hzz
  obtain ⟨hz, hsz, hby⟩ := hzz
  have hsrc : w.ownsRow g 5 1 (.slice (some ⟨g, 0, none⟩) 1 1) 1 [.int .u8 c.toNat] := ⟨rfl, .inr ⟨g, 1, #[.int .u8 c.toNat], rfl, Nat.le_refl _, hg, Nat.le_refl _, by unfold maxLen; decide, rfl, rfl⟩⟩
  refine wpList_append_rows (P := Tryz.prog) hgd s x 73 ho B 5 i _ 1 1 Tryz.underlying73 hi hz hsz hby rfl (by decide) v xs.length _ hs hown g _ 1 _ hx hsrc (by simp [Value.oneCell']) (by unfold maxLen; omega) (by omega) hB fun v' w' h1 h2 _ => h v' w' ?_ h2
  unfold Own
  rw [byteCells_append, List.length_append]
  exact h1
end

theorem Own.nil (w : World) (B : Nat) : Own w B (.slice none 0 0) [] := ⟨rfl, .inl ⟨rfl, rfl⟩⟩
theorem Own.keep {w w' : World} {B : Nat} {v : Value} {xs : List UInt8} (h : Own w B v xs) (hb : ∀ k, v.ownBlock = some k → w'.heap[k]? = w.heap[k]?) : Own w' B v xs := by
  rcases h with ⟨h1, h2 | ⟨g, cap, cur, rfl, hB, hg, hr⟩⟩
  · exact ⟨h1, .inl h2⟩
  · exact ⟨h1, .inr ⟨g, cap, cur, rfl, hB, (hb g rfl).trans hg, hr⟩⟩
theorem Own.below {w w' : World} {B : Nat} {v : Value} {xs : List UInt8} (h : Own w B v xs) (hb : Below w.heap.size w w') : Own w' B v xs := h.keep fun k hk => hb.block k (h.block k hk).2.1
/-- The text under way: its bytes, the schedule's box, all that stood before. -/
structure TS (w0 w : World) (A : Option Addr) (n c : Nat) (l m : Int) (v : Value) (xs : List UInt8) : Prop where
  own : Own w w0.heap.size v xs
  boxed : Boxed w0 w A n c l m
theorem TS.grown {w0 w w' : World} {A : Option Addr} {n c : Nat} {l m : Int} {v v' : Value} {xs ys : List UInt8} (h : TS w0 w A n c l m v xs) (ho : Own w' w0.heap.size v' ys) (hg : w.grownBy w' v.ownBlock) : TS w0 w' A n c l m v' ys := by
  refine ⟨ho, ?_, ?_⟩
  · exact h.boxed.below.grown hg h.boxed.below.size (fun k hk => (h.own.block k hk).1)
  · refine (hg.block _ h.boxed.lt fun e => ?_).trans h.boxed.box
    obtain ⟨_, _, cur, hc⟩ := h.own.block _ e.symm
    rw [h.boxed.box] at hc
    injection hc with hc; injection hc with _ hc _; cases hc
theorem TS.others {w0 w w' : World} {A : Option Addr} {n c : Nat} {l m : Int} {v v' : Value} {xs ys : List UInt8} (h : TS w0 w A n c l m v xs) (ho : Own w' w0.heap.size v' ys) (hb : Below w0.heap.size w w') (hk : Lib.OthersKept 5 none w w') : TS w0 w' A n c l m v' ys :=
  ⟨ho, h.boxed.below.trans hb, hk _ _ h.boxed.box (by simp) fun c fz e => by injection e with _ e _; cases e⟩
theorem TS.step {w0 w w' : World} {A : Option Addr} {n c : Nat} {l m : Int} {v : Value} {xs : List UInt8} (h : TS w0 w A n c l m v xs) (hb : Below w.heap.size w w') : TS w0 w' A n c l m v xs :=
  ⟨h.own.below hb, h.boxed.step hb⟩
theorem TierAt.grown {w w' : World} {g B : Nat} {x : Tier} {v : Value} {xs : List UInt8} (h : TierAt w g x) (ho : Own w B v xs) (hg : w.grownBy w' v.ownBlock) : TierAt w' g x := by
  unfold TierAt at h ⊢
  refine (hg.block _ (lt_of_block h) fun e => ?_).trans h
  obtain ⟨_, _, cur, hc⟩ := ho.block _ e.symm
  rw [h] at hc
  injection hc with hc; injection hc with _ hc _; cases hc
theorem TierAt.others {w w' : World} {g : Nat} {x : Tier} (h : TierAt w g x) (hk : Lib.OthersKept 5 none w w') : TierAt w' g x :=
  hk _ _ h (by simp) fun c fz e => by injection e with _ e _; cases e
theorem below_tab {w w' : World} (h : Tab w) (hb : Below w.heap.size w w') : Tab w' := Lib.tabBelow_of_tabIs h w' hb
/-- strconv.AppendInt of a number not below nought. -/
theorem appendInt_nat (w0 w : World) (v : Value) (xs : List UInt8) (x : Nat) (hx : x ≤ 9223372036854775807) (ho : Own w w0.heap.size v xs) (hb : Below w0.heap.size w0 w) (ht : Tab w0) (hl : xs.length ≤ 1000000) :
    Calls Tryz.prog 30 #[v, .int .i64 x, .int .i64 10] w fun e w' => ∃ v', e = .returned v' ∧ Own w' w0.heap.size v' (xs ++ Lib.decDigits x) ∧ Below w0.heap.size w w' ∧ Lib.OthersKept 5 none w w' := by
  have h := Tryz.strconv_AppendInt_10 w0.heap.size xs.length x (by omega) (by omega) v (Lib.byteCells xs) w ho hb.size (by omega) (fun w' hw => Lib.tabBelow_of_tabIs ht w' (hb.trans hw))
  refine h.mono ?_
  rintro e w' ⟨v', rfl, h1, h2, h3⟩
  refine ⟨v', rfl, ?_, h2, h3⟩
  rw [Lib.itoa_nonneg] at h1
  unfold Own
  rw [byteCells_append, List.length_append]
  exact h1
end Go.Proofs.YtikkocdbaekjmaaGreatDoor
