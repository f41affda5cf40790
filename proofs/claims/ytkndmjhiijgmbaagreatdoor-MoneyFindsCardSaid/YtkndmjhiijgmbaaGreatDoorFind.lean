/- money.Find, remitref04.Find: walked. -/
import Derived.Test.YtkndmjhiijgmbaaGreatDoorFixed
import Derived.Laws.ResultCell
namespace Go.Proofs.YtkndmjhiijgmbaaGreatDoor
open Go.RowKit

structure Cur where
  s : ByteArray
  d : Int
/-- A slice holds n currencies. -/
def Curs (w : World) (A : Option Addr) (n : Nat) (t : Nat → Cur) : Prop := n = 0 ∨ ∃ b o, A = some ⟨b, o, none⟩ ∧ b < w.heap.size ∧
  ∀ i, i < n → w.cell? ⟨b, o + i * 2, none⟩ = some (.string (t i).s) ∧ w.cell? ⟨b, o + i * 2 + 1, none⟩ = some (.int .i64 (t i).d)
theorem Curs.below {w w' : World} {A : Option Addr} {n : Nat} {t : Nat → Cur} (h : Curs w A n t) (hb : Below w.heap.size w w') : Curs w' A n t :=
  h.imp id fun ⟨b, o, e, hl, hc⟩ => ⟨b, o, e, Nat.lt_of_lt_of_le hl hb.size, fun i hi => ⟨(hb.cell (p := ⟨b, o + i * 2, none⟩) hl).trans (hc i hi).1, (hb.cell (p := ⟨b, o + i * 2 + 1, none⟩) hl).trans (hc i hi).2⟩⟩
/-- The first currency of a code. -/
def findTo (t : Nat → Cur) (q : ByteArray) : Nat → Option Cur
  | 0 => none
  | k + 1 => match findTo t q k with
    | some c => some c
    | none => if (t k).s.toList == q.toList then some (t k) else none
theorem findTo_some {t : Nat → Cur} {q : ByteArray} {c : Cur} {k : Nat} (h : findTo t q k = some c) : ∀ n, k ≤ n → findTo t q n = some c
  | 0, hk => by obtain rfl : k = 0 := by omega
                exact h
  | n + 1, hk => by
    by_cases e : k = n + 1
    · rw [← e]; exact h
    · unfold findTo
      rw [findTo_some h n (by omega)]
theorem findTo_hit {t : Nat → Cur} {q : ByteArray} {k n : Nat} (h : findTo t q k = none) (hk : k < n) (he : ((t k).s.toList == q.toList) = true) : findTo t q n = some (t k) :=
  findTo_some (k := k + 1) (by unfold findTo; rw [h]; exact if_pos he) n hk
theorem findTo_miss {t : Nat → Cur} {q : ByteArray} {k : Nat} (h : findTo t q k = none) (he : ((t k).s.toList == q.toList) = false) : findTo t q (k + 1) = none := by
  unfold findTo; rw [h]; exact if_neg (by rw [he]; exact Bool.false_ne_true)
def curV (c : Cur) : Value := .agg #[.string c.s, .int .i64 c.d]
def findV : Option Cur → Value
  | some c => .tuple #[curV c, .bool true]
  | none => .tuple #[curV ⟨⟨#[]⟩, 0⟩, .bool false]
/-- A currency in a block of its own. -/
def CurAt (w : World) (g : Nat) (x : Cur) : Prop := w.heap[g]? = some (.cells #[.string x.s, .int .i64 x.d] 42 (0, 0))
theorem CurAt.cells {w : World} {g : Nat} {x : Cur} (h : CurAt w g x) : (w.cell? ⟨g, 0, none⟩ = some (.string x.s) ∧ w.cell? ⟨g, 1, none⟩ = some (.int .i64 x.d)) ∧ w.frozen? ⟨g, 0, none⟩ = false ∧ w.frozen? ⟨g, 1, none⟩ = false := by
  unfold CurAt at h
  refine ⟨⟨?_, ?_⟩, ?_, ?_⟩ <;> (first | unfold World.cell? | unfold World.frozen?) <;> rw [h] <;> rfl
theorem CurAt.set {w : World} {g : Nat} {x : Cur} (h : CurAt w g x) (y : Cur) : CurAt ((w.setCell ⟨g, 0, none⟩ (.string y.s)).setCell ⟨g, 1, none⟩ (.int .i64 y.d)) g y := by
  unfold CurAt at h ⊢
  simp [World.setCell, Array.getElem?_modify, h]
theorem CurAt.below {w w' : World} {g : Nat} {x : Cur} (h : CurAt w g x) (hb : Below w.heap.size w w') : CurAt w' g x := by
  unfold CurAt at h ⊢
  have hl : g < w.heap.size := lt_of_block h
  rw [hb.block g hl]; exact h

set_option maxRecDepth 100000 in
set_option maxHeartbeats 4000000 in
theorem find_any (A : Option Addr) (n c : Nat) (t : Nat → Cur) (q : ByteArray) (w : World) (hT : Curs w A n t) (hn : n ≤ 17592186044416) :
    Calls Tryz.prog 14 #[.slice A n c, .string q] w fun e w' => e = .returned (findV (findTo t q n)) ∧ Below w.heap.size w w' := by
  have HT := Lib.hid hT
  have HZ := Lib.hid (show CurAt (w.alloc (.cells #[.string ⟨#[]⟩, .int .i64 0] 42)) w.heap.size ⟨⟨#[]⟩, 0⟩ from heap_alloc_new w _)
  clear hT
  go_enter Tryz.func14, Tryz.ntmps14
  go_wp2_with fail
  have HB := Lib.hid (Below.new w (.cells #[.string ⟨#[]⟩, .int .i64 0] 42))
  go_loopw [10] (fun vi wr => ∃ k : Nat, vi = .int .i64 k ∧ k ≤ n ∧ Hid (findTo t q k = none) ∧ Hid (Below w.heap.size w wr) ∧ Hid (CurAt wr w.heap.size ⟨⟨#[]⟩, 0⟩)) (fun vi _ => n - (intOf vi).toNat)
  case atStart => exact ⟨0, rfl, Nat.zero_le _, rfl, HB, HZ⟩
  case round =>
    obtain ⟨k, rfl, hk, hno, hb, ha⟩ := hrel
    obtain ⟨⟨f0, f1⟩, g0, g1⟩ := ha.out.cells
    have hgl : w.heap.size < wr.heap.size := lt_of_block ha.out
    rcases Nat.lt_or_ge k n with h | h
    · have hkI : (k : Int) < n := by omega
      rcases HT.out with h0 | ⟨b, o, rfl, hbl, hc⟩
      · omega
      · obtain ⟨c0, c1⟩ := hc k h
        have c0 := (hb.out.cell (p := ⟨b, o + k * 2, none⟩) hbl).trans c0
        have c1 := (hb.out.cell (p := ⟨b, o + k * 2 + 1, none⟩) hbl).trans c1
        have HH := Lib.hid (show ((t k).s.toList == q.toList) = true → findTo t q n = some (t k) from findTo_hit hno.out h)
        have HM := Lib.hid (show ((t k).s.toList == q.toList) = false → findTo t q (k + 1) = none from findTo_miss hno.out)
        generalize t k = x at *
        obtain ⟨x, y⟩ := x
        dsimp only at c0 c1
        clear hc
        cases e : (x.toList == q.toList) with
        | true =>
          have E := Lib.hid (HH.out e)
          clear HH HM
          go_wp2
          obtain ⟨⟨r0, r1⟩, _, _⟩ := ((CurAt.set ha.out ⟨x, y⟩).below ((Below.refl _ _).alloc (Nat.le_refl _) (.cells #[.string x, .int .i64 y] 42))).cells
          dsimp only at r0 r1
          refine bodyPost_ret (by simp [results, Tryz.results14, go_sem, r0, r1]; rfl) rfl ?_
          rw [E.out]
          refine ⟨rfl, ?_⟩
          have hB3 := (hb.out.setCell (p := ⟨w.heap.size, 0, none⟩) (Nat.le_refl _) (.string x)).setCell (p := ⟨w.heap.size, 1, none⟩) (Nat.le_refl _) (.int .i64 y)
          exact hB3.alloc hB3.size _
        | false =>
          have E := Lib.hid (HM.out e)
          clear HH HM
          go_wp2
          go_roundw
          case rel => exact ⟨k + 1, by go_num, h, E, Lib.hid (hb.out.alloc hb.out.size _), Lib.hid (ha.out.below ((Below.refl _ _).alloc (Nat.le_refl _) _))⟩
          case measure => simp [intOf]; omega
    · obtain rfl : n = k := by omega
      go_wp2
      obtain ⟨⟨r0, r1⟩, _, _⟩ := (CurAt.set ha.out ⟨⟨#[]⟩, 0⟩).cells
      dsimp only at r0 r1
      refine bodyPost_ret (by simp [results, Tryz.results14, go_sem, r0, r1]; rfl) rfl ?_
      rw [hno.out]
      refine ⟨rfl, ?_⟩
      exact (hb.out.setCell (p := ⟨w.heap.size, 0, none⟩) (Nat.le_refl _) _).setCell (p := ⟨w.heap.size, 1, none⟩) (Nat.le_refl _) _
end Go.Proofs.YtkndmjhiijgmbaaGreatDoor
