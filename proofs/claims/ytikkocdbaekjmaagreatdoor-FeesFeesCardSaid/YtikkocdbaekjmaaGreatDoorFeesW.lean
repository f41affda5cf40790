/- remitlaw18.FeesFees: walked. -/
import Derived.Test.YtikkocdbaekjmaaGreatDoorSameS
import Derived.Test.YtikkocdbaekjmaaGreatDoorFeeI
namespace Go.Proofs.YtikkocdbaekjmaaGreatDoor
open Go.RowKit
/-- A slice that came in reads as numbers. -/
def Ints (w : World) (A : Option Addr) (n : Nat) (f : Nat → Int) : Prop := n = 0 ∨ ∃ b o, A = some ⟨b, o, none⟩ ∧ b < w.heap.size ∧ ∀ i, i < n → w.cell? ⟨b, o + i, none⟩ = some (.int .i64 (f i))
theorem txt_pair (B : Nat → Addr) (n : Nat) (t : Nat → Tier) (l m : Int) : ∃ (S : ByteArray) (k : Nat), k ≤ 37 ∧ txtV B n t l m = .tuple #[.string S, ev B k] ∧ txtN n t l m = .tuple #[.string S, .int .i64 k] ∧ chkV B (goodB n t l m) = ev B k := by
  unfold txtV txtN chkV
  cases goodB n t l m with
  | true => exact ⟨_, 0, by decide, rfl, rfl, rfl⟩
  | false => exact ⟨_, 7, by decide, rfl, rfl, rfl⟩
theorem fee_pair (B : Nat → Addr) (n : Nat) (t : Nat → Tier) (l m a : Int) : ∃ (x : Int) (k : Nat), k ≤ 37 ∧ feeR B n t l m a = .tuple #[.int .i64 x, ev B k] ∧ feeN n t l m a = .tuple #[.int .i64 x, .int .i64 k] := by
  unfold feeR feeN
  split
  · split
    · exact ⟨_, 0, by decide, rfl, rfl⟩
    · exact ⟨_, 9, by decide, rfl, rfl⟩
  · exact ⟨_, 7, by decide, rfl, rfl⟩
theorem tiersEq_self (t : Nat → Tier) : ∀ n, tiersEq t t n = true
  | 0 => rfl
  | n + 1 => by unfold tiersEq tierEq; rw [tiersEq_self t n]; simp
theorem sameB_self (n : Nat) (t : Nat → Tier) (l m : Int) : sameB n t l m n t l m = true := by unfold sameB; rw [tiersEq_self]; simp
set_option maxRecDepth 100000 in
set_option maxHeartbeats 4000000 in
theorem fees_walk (B : Nat → Addr) (A : Option Addr) (n c : Nat) (t : Nat → Tier) (l m : Int) (A2 : Option Addr) (n2 c2 : Nat) (f2 : Nat → Int) (M : Int) (w : World) (hm : w.cell? ⟨39, 0, none⟩ = some (.int .i64 M)) (hE : Env w B) (htab : Tab w) (hT : Tiers w A n t) (hI : Ints w A2 n2 f2)
    (hn : (n + 1) * 24 ≤ 140737488355328) (hn2 : n2 ≤ 4611686018427387904) :
    Calls Tryz.prog 5 #[feeV A n c l m, .slice A2 n2 c2] w fun e w' => e = .returned (.bool true) ∧ Below w.heap.size w w' := by
  have HE := Lib.hid hE; have HT := Lib.hid hT; have HI := Lib.hid hI; have HTB := Lib.hid htab
  have HX := Lib.hid (Boxed.new w A n c l m)
  have hbx := HX.out.below
  have a1 := lives_any B M _ ((hbx.cell (p := ⟨39, 0, none⟩) (World.block_lt_of_cell? _ _ hm)).trans hm) (HE.out.below hbx) (tab_below htab hbx)
  unfold feeV
  clear hE hT hI hm htab hbx
  go_enter Tryz.func5, Tryz.ntmps5
  go_wp2_with fail
  refine a1.mono ?_
  clear a1
  rintro e w1 ⟨rfl, hb1⟩
  have HX1 := Lib.hid (HX.out.step hb1)
  clear hb1 HX
  have a2 := spare_any A n c t l m w1 (HT.out.step HX1.out.below) hn
  unfold feeV at a2
  obtain ⟨x0, x1, x2⟩ := HX1.out.cells
  go_wp2_with fail
  refine a2.mono ?_
  clear a2 x0 x1 x2
  rintro e w3 ⟨g, cap, rfl, hge, hgl, hT3, hc3, hb3⟩
  have HX3 := Lib.hid (HX1.out.step hb3)
  have HT3 := Lib.hid hT3; have HC3 := Lib.hid hc3
  have HGL := Lib.hid hgl
  clear hb3 hT3 hc3 hge hgl HX1
  unfold feeV
  go_upto_region 4 with fail
  have HM4 := Lib.hid (Boxed.new w3 (some ⟨g, 0, none⟩) n cap l m)
  have HX4 := Lib.hid (HX3.out.step HM4.out.below)
  clear HX3
  generalize w3.alloc (.cells #[.slice (some ⟨g, 0, none⟩) n cap, .int .i64 l, .int .i64 m] 25) = w4 at *
  obtain ⟨S, k, hk, e1, e2, e3⟩ := txt_pair B n t l m
  have a3 := ftext_any B (some ⟨g, 0, none⟩) n cap t l m w4 (HE.out.below HX4.out.below) (HT3.out.step HM4.out.below) (tab_below HTB.out HX4.out.below)
  rw [e1] at a3
  have A4 := Lib.hid (show ∀ wx, Boxed w wx A n c l m → Calls Tryz.prog 16 #[feeV A n c l m] wx fun e w' => e = .returned (.tuple #[.string S, .int .i64 k]) ∧ Below wx.heap.size wx w' from fun wx hb => by rw [← e2]; exact rtext_any A n c t l m wx (HT.out.step hb.below))
  have A5 := Lib.hid (show ∀ wx, Boxed w wx A n c l m → Boxed w3 wx (some ⟨g, 0, none⟩) n cap l m → Calls Tryz.prog 11 #[feeV (some ⟨g, 0, none⟩) n cap l m] wx fun e w' => e = .returned (ev B k) ∧ Below wx.heap.size wx w' from fun wx hb hb' => by rw [← e3]; exact check_any B (some ⟨g, 0, none⟩) n cap t l m wx (HE.out.below hb.below) (HT3.out.step hb'.below))
  have AN := Lib.hid (show ∀ wx (j : Nat), j ≤ 37 → Boxed w wx A n c l m → Calls Tryz.prog 9 #[ev B j] wx fun e w' => e = .returned (.int .i64 j) ∧ Below wx.heap.size wx w' from fun wx j hj hb => num_any B wx (HE.out.below hb.below) j hj)
  unfold feeV at a3
  clear e1 e2 e3
  obtain ⟨y0, y1, y2⟩ := HM4.out.cells
  go_wp2_with fail
  refine a3.mono ?_
  clear a3 y0 y1 y2
  rintro e w5 ⟨rfl, hb5⟩
  have HX5 := Lib.hid (HX4.out.step hb5); have HM5 := Lib.hid (HM4.out.step hb5)
  clear hb5 HX4 HM4
  have a4 := A4.out _ HX5.out
  unfold feeV at a4
  obtain ⟨x0, x1, x2⟩ := HX5.out.cells
  go_wp2_with fail
  refine a4.mono ?_
  clear a4 A4 x0 x1 x2
  rintro e w6 ⟨rfl, hb6⟩
  have HX6 := Lib.hid (HX5.out.step hb6); have HM6 := Lib.hid (HM5.out.step hb6)
  clear hb6 HX5 HM5
  have q1 : (S.toList == S.toList) = true := beq_self_eq_true _
  have q2 : ((k : Int) == (k : Int)) = true := beq_self_eq_true _
  have a5 := AN.out _ k hk HX6.out
  go_wp2_with fail
  refine a5.mono ?_
  clear a5
  rintro e w7 ⟨rfl, hb7⟩
  have HX7 := Lib.hid (HX6.out.step hb7); have HM7 := Lib.hid (HM6.out.step hb7)
  clear hb7 HX6 HM6
  have a6 := A5.out _ HX7.out HM7.out
  unfold feeV at a6
  obtain ⟨y0, y1, y2⟩ := HM7.out.cells
  go_wp2_with fail
  refine a6.mono ?_
  clear a6 A5 y0 y1 y2
  rintro e w8 ⟨rfl, hb8⟩
  have HX8 := Lib.hid (HX7.out.step hb8); have HM8 := Lib.hid (HM7.out.step hb8)
  clear hb8 HX7 HM7
  have a7 := AN.out _ k hk HX8.out
  go_wp2_with fail
  refine a7.mono ?_
  clear a7
  rintro e w9 ⟨rfl, hb9⟩
  have HX9 := Lib.hid (HX8.out.step hb9); have HM9 := Lib.hid (HM8.out.step hb9)
  clear hb9 HX8 HM8
  clear q1 q2
  go_wp2_with fail
  go_loopw [53] (fun vi wr => ∃ i : Nat, vi = .int .i64 i ∧ i ≤ n2 ∧ Hid (Boxed w wr A n c l m) ∧ Hid (Boxed w3 wr (some ⟨g, 0, none⟩) n cap l m)) (fun vi _ => n2 - (intOf vi).toNat)
  case atStart => exact ⟨0, rfl, Nat.zero_le _, HX9, HM9⟩
  case round =>
    obtain ⟨i, rfl, hi, hX, hM⟩ := hrel
    rcases Nat.lt_or_ge i n2 with h | h
    · have hiI : (i : Int) < n2 := by omega
      rcases HI.out with h0 | ⟨b2, o2, rfl, hb2, hc2⟩
      · omega
      have ci := (hX.out.below.cell (p := ⟨b2, o2 + i, none⟩) hb2).trans (hc2 i h)
      clear hc2
      generalize f2 i = a at *
      obtain ⟨x, j, hj, e1, e2⟩ := fee_pair B n t l m a
      have a8 := fee_any B (some ⟨g, 0, none⟩) n cap t l m a wr (HE.out.below hX.out.below) (HT3.out.step hM.out.below)
      rw [e1] at a8
      have A9 := Lib.hid (show ∀ wx, Boxed w wx A n c l m → Calls Tryz.prog 17 #[feeV A n c l m, .int .i64 a] wx fun e w' => e = .returned (.tuple #[.int .i64 x, .int .i64 j]) ∧ Below wx.heap.size wx w' from fun wx hb => by rw [← e2]; exact rfee_any A n c t l m a wx (HT.out.step hb.below))
      unfold feeV at a8
      clear e1 e2
      obtain ⟨y0, y1, y2⟩ := hM.out.cells
      go_wp2_with fail
      refine a8.mono ?_
      clear a8 y0 y1 y2 ci
      rintro e w10 ⟨rfl, hb10⟩
      have HX10 := Lib.hid (hX.out.step hb10); have HM10 := Lib.hid (hM.out.step hb10)
      clear hb10
      have a9 := A9.out _ HX10.out
      unfold feeV at a9
      obtain ⟨x0, x1, x2⟩ := HX10.out.cells
      go_wp2_with fail
      refine a9.mono ?_
      clear a9 A9 x0 x1 x2
      rintro e w11 ⟨rfl, hb11⟩
      have HX11 := Lib.hid (HX10.out.step hb11); have HM11 := Lib.hid (HM10.out.step hb11)
      clear hb11 HX10 HM10
      have q1 : (x == x) = true := beq_self_eq_true _
      have q2 : ((j : Int) == (j : Int)) = true := beq_self_eq_true _
      have a10 := AN.out _ j hj HX11.out
      go_wp2_with fail
      refine a10.mono ?_
      clear a10
      rintro e w12 ⟨rfl, hb12⟩
      have HX12 := Lib.hid (HX11.out.step hb12); have HM12 := Lib.hid (HM11.out.step hb12)
      clear hb12 HX11 HM11
      go_wp2_with fail
      go_roundw
      case rel => exact ⟨i + 1, by go_num, h, HX12, HM12⟩
      case measure => simp [intOf]; omega
    · obtain rfl : n2 = i := by omega
      obtain ⟨x0, x1, x2⟩ := hX.out.cells
      obtain ⟨y0, y1, y2⟩ := hM.out.cells
      have a8 := same_any (some ⟨g, 0, none⟩) A n cap n c t t l m l m wr (HT3.out.step hM.out.below) (HT.out.step hX.out.below) (by omega)
      rw [sameB_self] at a8
      unfold feeV at a8
      go_wp2_with fail
      refine a8.mono ?_
      clear a8 x0 x1 x2 y0 y1 y2
      rintro e w10 ⟨rfl, hb10⟩
      have HX10 := Lib.hid (hX.out.step hb10); have HM10 := Lib.hid (hM.out.step hb10)
      have hc10 := (HM10.out.below.cell (p := ⟨g, n * 3, none⟩) HGL.out).trans HC3.out
      have hnI : (n : Int) < n + 1 := by omega
      clear hb10
      go_wp2
      go_ret
      exact ⟨rfl, HX10.out.below⟩
end Go.Proofs.YtikkocdbaekjmaaGreatDoor
