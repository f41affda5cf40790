/- remitlaw04.fixed: walked. -/
import Derived.Test.YthkobjbemmllfaaGreatDoorSortS
import Derived.Test.YthkobjbemmllfaaGreatDoorSplitW
import Derived.Test.YthkobjbemmllfaaGreatDoorAddSub
import Derived.Lib.AppendIntMem
namespace Go.Proofs.YthkobjbemmllfaaGreatDoor
open Go.RowKit Go.Sort

def ws3 (i : Nat) : Nat := if i = 2 then 1 else 3
theorem ws3_sum : nsum ws3 3 = 7 := by decide
theorem ord3 : Sort.insertionSort (ltP (rf 10 7 ws3) 2) (idP 2) 0 3 = #[2, 0, 1] := by decide +kernel
theorem isOrd3 : IsOrd (rf 10 7 ws3) 3 fun i => ((Sort.insertionSort (ltP (rf 10 7 ws3) 2) (idP 2) 0 3)[i]!).val := by
  rw [ord3]
  refine ⟨fun i hi => ?_, fun i j hij hj => ?_⟩
  · exact ((#[2, 0, 1] : Array (Fin 3))[i]!).isLt
  · have : i = 0 ∧ j = 1 ∨ i = 0 ∧ j = 2 ∨ i = 1 ∧ j = 2 := by omega
    rcases this with ⟨rfl, rfl⟩ | ⟨rfl, rfl⟩ | ⟨rfl, rfl⟩ <;> decide +kernel
theorem sort3 : SortOK 3 (rf 10 7 ws3) := sort_small 2 (by decide) (by decide) _ isOrd3 (by rw [ord3]; rfl)
/-- The shares, whatever ord is in that order. -/
theorem shares3 {ord : Nat → Nat} (h : IsOrd (rf 10 7 ws3) 3 ord) : ∀ x, x < 3 → qf 10 7 ws3 x + among ord (10 - nsum (qf 10 7 ws3) 3) x = if x = 2 then 2 else 4 := by
  have e : 10 - nsum (qf 10 7 ws3) 3 = 1 := by decide
  rw [e]
  have h0 := h.lt 0 (by decide); have h1 := h.lt 1 (by decide); have h2 := h.lt 2 (by decide)
  have o1 := h.ord 0 1 (by decide) (by decide); have o2 := h.ord 0 2 (by decide) (by decide)
  have i1 : ord 0 ≠ ord 1 := fun e => by have := h.inj (by decide) (by decide) e; omega
  have i2 : ord 0 ≠ ord 2 := fun e => by have := h.inj (by decide) (by decide) e; omega
  have i3 : ord 1 ≠ ord 2 := fun e => by have := h.inj (by decide) (by decide) e; omega
  have r0 : rf 10 7 ws3 0 = 2 := by decide
  have r1 : rf 10 7 ws3 1 = 2 := by decide
  have r2 : rf 10 7 ws3 2 = 3 := by decide
  have hh : ord 0 = 2 := by
    have hc : ord 1 = 2 ∨ ord 2 = 2 ∨ ord 0 = 2 := by omega
    have hz : ∀ y, y < 3 → y ≠ 2 → rf 10 7 ws3 y = 2 := fun y hy hne => by
      have : y = 0 ∨ y = 1 := by omega
      rcases this with rfl | rfl
      · exact r0
      · exact r1
    rcases hc with hc | hc | hc
    · exfalso
      rw [hc, r2, hz (ord 0) h0 (by omega)] at o1; omega
    · exfalso
      rw [hc, r2, hz (ord 0) h0 (by omega)] at o2; omega
    · exact hc
  intro x hx
  have : x = 0 ∨ x = 1 ∨ x = 2 := by omega
  unfold among among
  rw [hh]
  rcases this with rfl | rfl | rfl <;> decide
theorem rate3 : rateOf (12345 * 150) = 185 := by decide
end Go.Proofs.YthkobjbemmllfaaGreatDoor
namespace Go.Proofs.YthkobjbemmllfaaGreatDoor
open Go.RowKit

theorem nums3 (w : World) : Nums (w.alloc (.cells #[.int .i64 3, .int .i64 3, .int .i64 1] 3)) (some ⟨w.heap.size, 0, none⟩) 3 ws3 :=
  .inr ⟨w.heap.size, 0, rfl, by simp, fun i hi => by
    have : i = 0 ∨ i = 1 ∨ i = 2 := by omega
    rcases this with rfl | rfl | rfl <;> simp [ws3]⟩
theorem tab_below {w w' : World} (h : Tab w) (hb : Below w.heap.size w w') : Tab w' := Lib.tabBelow_of_tabIs h w' hb
theorem split3 (w : World) : Calls Tryz.prog 7 #[.int .i64 10, .slice (some ⟨w.heap.size, 0, none⟩) 3 3] (w.alloc (.cells #[.int .i64 3, .int .i64 3, .int .i64 1] 3)) (SplitPost 3 (fun x => if x = 2 then 2 else 4) (w.alloc (.cells #[.int .i64 3, .int .i64 3, .int .i64 1] 3))) := by
  refine (split_any _ 3 3 10 7 ws3 _ (by decide) (nums3 w) (fun i _ => by unfold ws3; split <;> decide) (by decide) ws3_sum (by decide) (by decide) (fun i hi => divOK_word (by unfold ws3; split <;> decide) (by decide) (by decide)) sort3).mono ?_
  rintro e w' ⟨ord, ho, bS, rfl, h1, h2, h3⟩
  exact ⟨bS, rfl, h1, h2.congr fun i hi => congrArg (fun n : Nat => Value.int .i64 (n : Int)) (shares3 ho i hi), h3⟩
theorem over3 (B : Nat → Addr) (w : World) (hE : Env w B) : Calls Tryz.prog 15 #[.int .i64 9223372036854775807, .int .i64 1] w fun e w' => e = .returned (.tuple #[.int .i64 0, ev B 10]) ∧ Below w.heap.size w w' := by
  refine (add2_any B 9223372036854775807 1 w hE ⟨by decide, by decide⟩ ⟨by decide, by decide⟩).mono ?_
  rintro e w' ⟨rfl, hb⟩
  have h : ¬ fits64 (9223372036854775807 + 1) := fun h => absurd h.2 (by decide)
  refine ⟨?_, hb⟩
  unfold fv fn
  rw [if_neg h, if_neg h]
theorem mtext5 : mtext (-((5 : Nat) : Int)) 2 = [45, 48, 46, 48, 53] := by decide +kernel

set_option maxRecDepth 100000 in
set_option maxHeartbeats 2000000 in
theorem fixed_any (B : Nat → Addr) (w : World) (hE : Env w B) (htab : Tab w) : Calls Tryz.prog 5 #[] w fun e w' => e = .returned (.bool true) ∧ Below w.heap.size w w' := by
  have HE := Lib.hid hE; have HT := Lib.hid htab
  have a1 := rate_any 12345 150 w (by decide) (by decide) (by decide)
  rw [rate3] at a1
  clear hE htab
  go_enter Tryz.func5, Tryz.ntmps5
  go_wp2_with fail
  refine a1.mono ?_
  clear a1
  rintro e w1 ⟨rfl, hb1⟩
  have a2 := split3 w1
  have HB1 := Lib.hid hb1
  clear hb1
  go_wp2_with fail
  refine a2.mono ?_
  clear a2
  rintro e w2 ⟨bS, rfl, h1, h2, h3⟩
  have c0 := h2.cell (i := 0) (by decide)
  have c1 := h2.cell (i := 1) (by decide)
  have c2 := h2.cell (i := 2) (by decide)
  have HB2 : Hid (Below w.heap.size w w2) := HB1.out.trans ((Below.new w1 _).trans (h3.mono (by simp)) |>.mono HB1.out.size)
  have a3 := over3 B w2 (HE.out.below HB2.out)
  clear h1 h2 h3 HB1
  go_wp2_with fail
  refine a3.mono ?_
  clear a3 c0 c1 c2
  rintro e w3 ⟨rfl, hb3⟩
  have HB3 := Lib.hid (HB2.out.trans (hb3.mono HB2.out.size))
  have a4 := num_any B w3 (HE.out.below HB3.out) 10 (by decide)
  clear hb3 HB2
  go_wp2_with fail
  refine a4.mono ?_
  clear a4
  rintro e w4 ⟨rfl, hb4⟩
  have HB4 := Lib.hid (HB3.out.trans (hb4.mono HB3.out.size))
  have a5 := text_neg 5 2 (by decide) (by decide) w4 (tab_below HT.out HB4.out)
  rw [mtext5] at a5
  clear hb4 HB3
  go_wp2_with fail
  refine a5.mono ?_
  clear a5
  rintro e w5 ⟨rfl, hb5⟩
  have HB5 := Lib.hid (HB4.out.trans (hb5.mono HB4.out.size))
  have a6 := code_eur w5
  clear hb5 HB4
  go_wp2_with fail
  refine a6.mono ?_
  clear a6
  rintro e w6 ⟨rfl, rfl⟩
  go_wp2
  go_ret
  exact ⟨rfl, HB5.out⟩
end Go.Proofs.YthkobjbemmllfaaGreatDoor
