/- remitlaw04.MoneyFinds: walked, over the contract of fixed. -/
import Derived.Test.YtkndmjhiijgmbaaGreatDoorFindC
import Derived.BigQuiet
import Derived.Deep.QuietTactic
import Derived.Deep.DeepCutAuto
namespace Go.Proofs.YtkndmjhiijgmbaaGreatDoor
open Go.RowKit

def eur : ByteArray := ⟨#[69, 85, 82]⟩
def eurs (i : Nat) : Cur := if i = 0 then ⟨eur, 2⟩ else ⟨eur, 3⟩
theorem find_eurs : findV (findTo eurs eur 2) = .tuple #[.agg #[.string ⟨#[69, 85, 82]⟩, .int .i64 2], .bool true] := by kernel_rfl
theorem eurs_curs (w : World) : Curs (w.alloc (.cells #[.string ⟨#[69, 85, 82]⟩, .int .i64 2, .string ⟨#[69, 85, 82]⟩, .int .i64 3] 42)) (some ⟨w.heap.size, 0, none⟩) 2 eurs :=
  .inr ⟨w.heap.size, 0, rfl, by simp, fun i hi => by
    have : i = 0 ∨ i = 1 := by omega
    rcases this with rfl | rfl <;> simp [eurs, eur]⟩

set_option maxRecDepth 100000 in
set_option maxHeartbeats 4000000 in
theorem finds_walk (A : Option Addr) (n c : Nat) (t : Nat → Cur) (q : ByteArray) (w : World) (hfix : Calls Tryz.prog 6 #[] w fun e w' => e = .returned (.bool true) ∧ Below w.heap.size w w')
    (hT : Curs w A n t) (hn : n * 24 ≤ 140737488355328) :
    Calls Tryz.prog 5 #[.slice A n c, .string q] w fun e w' => e = .returned (.bool true) ∧ Below w.heap.size w w' := by
  have HT := Lib.hid hT
  have HN := Lib.hid hn
  have hn' : n ≤ 17592186044416 := by omega
  clear hT hn
  go_enter Tryz.func5, Tryz.ntmps5
  go_wp2_with fail
  refine hfix.mono ?_
  clear hfix
  rintro e w1 ⟨rfl, hb1⟩
  have HB1 := Lib.hid hb1
  have HT1 := Lib.hid (HT.out.below hb1)
  have HTA := Lib.hid (HT1.out.below (Below.new w1 (.cells #[] 42)))
  clear hb1
  go_wp2_with (at_builtin; refine copy_list rfl _ _ rfl w1.heap.size rfl (heap_alloc_new w1 _) A n c t rfl HTA.out HN.out ?_; intro g o' cap w2 hc2 hb2)
  have hB2 := HB1.out.trans ((Below.new w1 (.cells #[] 42)).trans (hb2.mono (Nat.le_refl _)) |>.mono HB1.out.size)
  have HB2 := Lib.hid hB2
  have HC2 := Lib.hid hc2
  have HT2 := Lib.hid (HT.out.below hB2)
  have a1 := find_any (some ⟨g, o', none⟩) n cap t q w2 hc2 hn'
  obtain ⟨s, d, b, hf⟩ := findV_form (findTo t q n)
  rw [hf] at a1
  have HF := Lib.hid hf
  clear hc2 hb2 hB2 hf HTA HB1 HT1
  refine a1.mono ?_
  clear a1
  rintro e w3 ⟨rfl, hb3⟩
  have hb3 : Below w2.heap.size w2 (w3.alloc (.cells #[.string s, .int .i64 d] 42)) := hb3.alloc hb3.size _
  have HB3 := Lib.hid (HB2.out.trans (hb3.mono HB2.out.size))
  have HX3 := Lib.hid (show CurAt (w3.alloc (.cells #[.string s, .int .i64 d] 42)) w3.heap.size ⟨s, d⟩ from heap_alloc_new w3 _)
  have HC3 := Lib.hid (HC2.out.below hb3)
  have HT3 := Lib.hid (HT2.out.below hb3)
  clear hb3 HB2 HC2 HT2
  have a2 := findR_any A n c t q _ HT3.out hn'
  rw [HF.out] at a2
  go_wp2_with fail
  refine a2.mono ?_
  clear a2
  rintro e w4 ⟨rfl, hb4⟩
  have hb4 := hb4.alloc hb4.size (.cells #[.string s, .int .i64 d] 42)
  have HB4 := Lib.hid (HB3.out.trans (hb4.mono HB3.out.size))
  have HX4 := Lib.hid (HX3.out.below hb4)
  have HY4 := Lib.hid (show CurAt (w4.alloc (.cells #[.string s, .int .i64 d] 42)) w4.heap.size ⟨s, d⟩ from heap_alloc_new w4 _)
  have HC4 := Lib.hid (HC3.out.below hb4)
  have HT4 := Lib.hid (HT3.out.below hb4)
  clear hb4 HB3 HX3 HC3 HT3 HF HN
  go_wp2_with fail
  clear hb3 hb4 HT
  generalize w4.alloc (.cells #[.string s, .int .i64 d] 42) = w5 at *
  generalize w3.heap.size = gx at *
  generalize w4.heap.size = gy at *
  go_loopw [32] (fun vi wr => ∃ k : Nat, vi = .int .i64 k ∧ k ≤ n ∧ Hid (Below w5.heap.size w5 wr)) (fun vi _ => n - (intOf vi).toNat)
  case atStart => exact ⟨0, rfl, Nat.zero_le _, Lib.hid (Below.refl _ _)⟩
  case round =>
    obtain ⟨k, rfl, hk, hb⟩ := hrel
    rcases Nat.lt_or_ge k n with h | h
    · have hkI : (k : Int) < n := by omega
      rcases HT4.out.below hb.out with h0 | ⟨b1, o1, rfl, hbl1, hc1⟩
      · omega
      rcases HC4.out.below hb.out with h0 | ⟨b2, o2, e2, hbl2, hc2⟩
      · omega
      cases e2
      obtain ⟨c0, c1⟩ := hc1 k h
      obtain ⟨d0, d1⟩ := hc2 k h
      generalize t k = x at *
      obtain ⟨x, y⟩ := x
      dsimp only at c0 c1 d0 d1
      clear hc1 hc2
      go_wp2_with fail
      go_region
      go_wp2_with fail
      go_roundw
      case rel => exact ⟨k + 1, by go_num, h, hb.out.drew⟩
      case measure => simp [intOf]; omega
    · obtain rfl : n = k := by omega
      have HBB := Lib.hid (HB4.out.trans (hb.out.mono HB4.out.size))
      have HX5 := Lib.hid (HX4.out.below hb.out)
      have HY5 := Lib.hid (HY4.out.below hb.out)
      have hb6 := Below.new wr (.cells #[.string ⟨#[69, 85, 82]⟩, .int .i64 2, .string ⟨#[69, 85, 82]⟩, .int .i64 3] 42)
      have a3 := find_any (some ⟨wr.heap.size, 0, none⟩) 2 2 eurs eur _ (eurs_curs wr) (by decide)
      rw [find_eurs] at a3
      unfold eur at a3
      have HB6 := Lib.hid (HBB.out.trans (hb6.mono HBB.out.size))
      have HX6 := Lib.hid (HX5.out.below hb6)
      have HY6 := Lib.hid (HY5.out.below hb6)
      clear hb6 HX5 HY5 hb HBB
      go_wp2_with fail
      refine a3.mono ?_
      clear a3
      rintro e w7 ⟨rfl, hb7⟩
      have HB7 := Lib.hid (HB6.out.trans (hb7.mono HB6.out.size))
      have X := (HX6.out.below hb7)
      have Y := (HY6.out.below hb7)
      obtain ⟨⟨x0, x1⟩, _, _⟩ := X.cells
      obtain ⟨⟨y0, y1⟩, _, _⟩ := Y.cells
      dsimp only at x0 x1 y0 y1
      have lx := lt_of_block X
      have ly := lt_of_block Y
      clear hb7 HB6 X Y
      go_wp2
      go_ret
      exact ⟨rfl, HB7.out.alloc HB7.out.size _⟩
end Go.Proofs.YtkndmjhiijgmbaaGreatDoor
