/- remitref04.Find: walked; the list's copy. -/
import Derived.Test.YtkndmjhiijgmbaaGreatDoorFind
namespace Go.Proofs.YtkndmjhiijgmbaaGreatDoor
open Go.RowKit

set_option maxRecDepth 100000 in
set_option maxHeartbeats 4000000 in
theorem findR_any (A : Option Addr) (n c : Nat) (t : Nat → Cur) (q : ByteArray) (w : World) (hT : Curs w A n t) (hn : n ≤ 17592186044416) :
    Calls Tryz.prog 15 #[.slice A n c, .string q] w fun e w' => e = .returned (findV (findTo t q n)) ∧ Below w.heap.size w w' := by
  have HT := Lib.hid hT
  have HZ := Lib.hid (show CurAt (w.alloc (.cells #[.string ⟨#[]⟩, .int .i64 0] 42)) w.heap.size ⟨⟨#[]⟩, 0⟩ from heap_alloc_new w _)
  clear hT
  go_enter Tryz.func15, Tryz.ntmps15
  go_wp2_with fail
  have HB := Lib.hid (Below.new w (.cells #[.string ⟨#[]⟩, .int .i64 0] 42))
  go_loopw [6] (fun vi wr => ∃ k : Nat, vi = .int .i64 k ∧ k ≤ n ∧ Hid (findTo t q k = none) ∧ Hid (Below w.heap.size w wr) ∧ Hid (CurAt wr w.heap.size ⟨⟨#[]⟩, 0⟩)) (fun vi _ => n - (intOf vi).toNat)
  case atStart => exact ⟨0, rfl, Nat.zero_le _, rfl, HB, HZ⟩
  case round =>
    obtain ⟨k, rfl, hk, hno, hb, ha⟩ := hrel
    obtain ⟨⟨f0, f1⟩, g0, g1⟩ := ha.out.cells
    have hgl : w.heap.size < wr.heap.size := lt_of_block ha.out
    rcases Nat.lt_or_ge k n with h | h
    · have hkI : (k : Int) < n := by omega
      rcases HT.out with h0 | ⟨b, o, rfl, hbl, hc⟩
      · omega
      · obtain ⟨c0, c1⟩ := hc k h
        have c0 := (hb.out.cell (p := ⟨b, o + k * 2, none⟩) hbl).trans c0
        have c1 := (hb.out.cell (p := ⟨b, o + k * 2 + 1, none⟩) hbl).trans c1
        have HH := Lib.hid (show ((t k).s.toList == q.toList) = true → findTo t q n = some (t k) from findTo_hit hno.out h)
        have HM := Lib.hid (show ((t k).s.toList == q.toList) = false → findTo t q (k + 1) = none from findTo_miss hno.out)
        generalize t k = x at *
        obtain ⟨x, y⟩ := x
        dsimp only at c0 c1
        clear hc
        cases e : (x.toList == q.toList) with
        | true =>
          have E := Lib.hid (HH.out e)
          clear HH HM
          go_wp2
          obtain ⟨⟨r0, r1⟩, _, _⟩ := (CurAt.set ha.out ⟨x, y⟩).cells
          dsimp only at r0 r1
          refine bodyPost_ret (by simp [results, Tryz.results15, go_sem, r0, r1]; rfl) rfl ?_
          rw [E.out]
          refine ⟨rfl, ?_⟩
          exact (hb.out.setCell (p := ⟨w.heap.size, 0, none⟩) (Nat.le_refl _) (.string x)).setCell (p := ⟨w.heap.size, 1, none⟩) (Nat.le_refl _) (.int .i64 y)
        | false =>
          have E := Lib.hid (HM.out e)
          clear HH HM
          go_wp2
          go_roundw
          case rel => exact ⟨k + 1, by go_num, h, E, hb, ha⟩
          case measure => simp [intOf]; omega
    · obtain rfl : n = k := by omega
      go_wp2
      obtain ⟨⟨r0, r1⟩, _, _⟩ := (CurAt.set ha.out ⟨⟨#[]⟩, 0⟩).cells
      dsimp only at r0 r1
      refine bodyPost_ret (by simp [results, Tryz.results15, go_sem, r0, r1]; rfl) rfl ?_
      rw [hno.out]
      refine ⟨rfl, ?_⟩
      exact (hb.out.setCell (p := ⟨w.heap.size, 0, none⟩) (Nat.le_refl _) _).setCell (p := ⟨w.heap.size, 1, none⟩) (Nat.le_refl _) _
end Go.Proofs.YtkndmjhiijgmbaaGreatDoor
