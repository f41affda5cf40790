/- money.Add, money.Sub: walked. -/
import Derived.Test.YthkobjbemmllfaaGreatDoorSums
namespace Go.Proofs.YthkobjbemmllfaaGreatDoor
open Go.RowKit

def two (a b : Int) : Nat → Int := fun i => if i = 0 then a else b
set_option maxRecDepth 100000 in
theorem add2_any (B : Nat → Addr) (a b : Int) (w : World) (hE : Env w B) (ha : fits64 a) (hb : fits64 b) : Calls Tryz.prog 15 #[.int .i64 a, .int .i64 b] w (FitPost B (a + b) w) := by
  have hB := Below.new w (.cells #[.int .i64 a, .int .i64 b] 2)
  have a1 := sum_any B (some ⟨w.heap.size, 0, none⟩) 2 2 (two a b) (w.alloc (.cells #[.int .i64 a, .int .i64 b] 2)) (hE.below hB)
    (.inr ⟨_, _, rfl, by simp, fun i hi => by
      have h := heap_alloc_new w (.cells #[.int .i64 a, .int .i64 b] 2)
      unfold World.cell?
      rw [h]
      obtain rfl | rfl : i = 0 ∨ i = 1 := by omega
      · rfl
      · rfl⟩) (fun i hi => by unfold two; split <;> assumption) (by decide)
  rw [show sumTo (two a b) 2 = a + b by simp [sumTo, two]] at a1
  have HB := Lib.hid hB
  clear hE ha hb hB
  go_enter Tryz.func15, Tryz.ntmps15
  go_wp2_with fail
  refine a1.mono ?_
  clear a1
  rintro e w' ⟨rfl, h1⟩
  go_wp2
  go_ret2
  exact ⟨rfl, HB.out.trans (h1.mono HB.out.size)⟩

end Go.Proofs.YthkobjbemmllfaaGreatDoor
