/- remitref04.Sum: walked. -/
import Derived.Test.YtodekiimkbejnaaGreatDoorSum4
import Derived.Test.YtodekiimkbejnaaGreatDoorHeldE
import Derived.Deep.DrawnRows
import Derived.BigRegion
namespace Go.Proofs.YtodekiimkbejnaaGreatDoor
open Go.RowKit

/-- Whole numbers in memory. -/
def IntsAt (w : World) (A : Option Addr) (n : Nat) (f : Nat → Int) : Prop := 0 < n → ∃ g o, A = some ⟨g, o, none⟩ ∧ g < w.heap.size ∧ ∀ i, i < n → w.cell? ⟨g, o + i, none⟩ = some (.int .i64 (f i))
theorem IntsAt.below {w w' : World} {A : Option Addr} {n : Nat} {f : Nat → Int} (h : IntsAt w A n f) (hb : Below w.heap.size w w') : IntsAt w' A n f := fun hn => by
  obtain ⟨g, o, e, hg, hc⟩ := h hn
  exact ⟨g, o, e, Nat.lt_of_lt_of_le hg hb.size, fun i hi => (hb.cell (by exact hg)).trans (hc i hi)⟩
def sumF (f : Nat → Int) : Nat → Int
  | 0 => 0
  | k + 1 => sumF f k + f k
theorem sumF_le {f : Nat → Int} {n : Nat} (hf : ∀ i, i < n → -9223372036854775808 ≤ f i ∧ f i ≤ 9223372036854775807) : ∀ k, k ≤ n → (sumF f k).natAbs ≤ k * 9223372036854775808
  | 0, _ => Nat.zero_le _
  | k + 1, hk => by
    have h1 := sumF_le hf k (by omega)
    have h2 := hf k (by omega)
    show (sumF f k + f k).natAbs ≤ _
    omega
theorem small_of {x : Int} {k : Nat} (h : x.natAbs ≤ k * 9223372036854775808) (hk : k ≤ 68719476736) : Small x := by
  unfold Small; omega
attribute [local go_sem ↓] Go.wp_at_zero Go.wp_at_succ

set_option maxRecDepth 100000 in
set_option maxHeartbeats 4000000 in
theorem sum4_any (A : Option Addr) (n c : Nat) (f : Nat → Int) (w : World) (hL : IntsAt w A n f) (hf : ∀ i, i < n → -9223372036854775808 ≤ f i ∧ f i ≤ 9223372036854775807) (hn : n ≤ 68719476736) :
    Calls Tryz.prog 22 #[.slice A n c] w fun e w' => e = .returned (fitsV (sumF f n)) ∧ Below w.heap.size w w' := by
  have HL := Lib.hid (fun w' (hb : Below w.heap.size w w') => hL.below hb)
  have HF := Lib.hid hf
  have HS := Lib.hid (fun k (hk : k ≤ n) => small_of (sumF_le hf k hk) (by omega))
  clear hL hf
  go_enter Tryz.func22, Tryz.ntmps22
  go_wp2_with fail
  have HC0 := Lib.hid (show (w.alloc (.cells #[.int .i64 0, .int .u64 0] 75)).heap[w.heap.size]? = some (.cells #[.int .i64 (hiW (sumF f 0)), .int .u64 (loW (sumF f 0))] 75 (0, 0)) from heap_alloc_new w _)
  have HB0 := Lib.hid (Below.new w (.cells #[.int .i64 0, .int .u64 0] 75))
  generalize w.alloc (.cells #[.int .i64 0, .int .u64 0] 75) = w0 at *
  go_loopw [5] (fun vi wr => ∃ k : Nat, vi = .int .i64 k ∧ k ≤ n ∧ Hid (Below w.heap.size w wr ∧ wr.heap[w.heap.size]? = some (.cells #[.int .i64 (hiW (sumF f k)), .int .u64 (loW (sumF f k))] 75 (0, 0)))) (fun vi _ => n - (intOf vi).toNat)
  case atStart => exact ⟨0, rfl, Nat.zero_le _, Lib.hid ⟨HB0.out, HC0.out⟩⟩
  case round =>
    obtain ⟨k, rfl, hk, hh⟩ := hrel
    have hw := hh.out.1
    have hblk := hh.out.2
    have hsz := hw.size
    have hlow : w.heap.size < wr.heap.size := by
      rcases Nat.lt_or_ge w.heap.size wr.heap.size with h | h
      · exact h
      · rw [Array.getElem?_eq_none h] at hblk; cases hblk
    by_cases h : k < n
    · obtain ⟨g, o, rfl, hg, hc⟩ := HL.out _ hw (by omega)
      have c0 := hc k h
      obtain ⟨f1, f2⟩ := HF.out k h
      have hsm := HS.out k (by omega)
      have a1 := whole_any (f k) 
      have HSN := Lib.hid (show sumF f (k + 1) = sumF f k + f k from rfl)
      have hq : Small (f k) := by unfold Small; omega
      have a2 := fun w => plus_any (sumF f k) (f k) w hsm hq
      have k0 : ∀ W, Below wr.heap.size wr W → W.cell? ⟨w.heap.size, 0, none⟩ = some (.int .i64 (hiW (sumF f k))) ∧ W.cell? ⟨w.heap.size, 1, none⟩ = some (.int .u64 (loW (sumF f k))) ∧ W.cell? ⟨g, o + k, none⟩ = some (.int .i64 (f k)) ∧ W.frozen? ⟨w.heap.size, 0, none⟩ = false ∧ W.frozen? ⟨w.heap.size, 1, none⟩ = false := fun W hb => by
        have hB := (hb.block w.heap.size hlow).trans hblk
        refine ⟨by unfold World.cell?; rw [hB]; rfl, by unfold World.cell?; rw [hB]; rfl, (hb.cell (by exact hg)).trans c0, by unfold World.frozen?; rw [hB]; rfl, by unfold World.frozen?; rw [hB]; rfl⟩
      have HKP := Lib.hid k0
      have HW := Lib.hid hw; have HBLK := Lib.hid hblk
      have HLOW := Lib.hid hlow
      have HS0 := Lib.hid ((Below.refl wr.heap.size wr).drew)
      clear hh hw hblk hc hsm hq k0 c0
      generalize hx : f k = x at *
      generalize hs : sumF f k = s at *
      clear hx hs
      go_wp2_with fail
      refine wp_region_E (S := fun W => Below wr.heap.size wr W) (late := [7]) (by kernel_rfl) ?_
      refine wpAnyE_take (i := 0) (v := ?v0) rfl (by kernel_rfl) (by kernel_rfl) (by kernel_rfl) (by kernel_rfl) (by kernel_rfl) (fun _ _ _ h => h) (Or.inl ⟨by rfl, ?y0⟩) HS0.out ?_
      case y0 => intro W hSw; obtain ⟨q1, q2, q3, _⟩ := HKP.out W hSw; clear hSw; go_simp; with_reducible rfl
      try simp only [Act.put, List.setIfInBounds_toArray, List.set_cons_zero, List.set_cons_succ]
      refine wpAnyE_take (i := 1) (v := ?v1) rfl (by kernel_rfl) (by kernel_rfl) (by kernel_rfl) (by kernel_rfl) (by kernel_rfl) (fun _ _ _ h => h) (Or.inl ⟨by rfl, ?y1⟩) HS0.out ?_
      case y1 => intro W hSw; clear hSw; go_simp; try with_reducible rfl
      try simp only [Act.put, List.setIfInBounds_toArray, List.set_cons_zero, List.set_cons_succ]
      refine wpAnyE_take (i := 2) (v := ?v2) rfl (by kernel_rfl) (by kernel_rfl) (by kernel_rfl) (by kernel_rfl) (by kernel_rfl) (fun _ _ _ h => h) (Or.inl ⟨by rfl, ?y2⟩) HS0.out ?_
      case y2 => intro W hSw; clear hSw; go_simp; try with_reducible rfl
      try simp only [Act.put, List.setIfInBounds_toArray, List.set_cons_zero, List.set_cons_succ]
      refine wpAnyE_take (i := 3) (v := ?v3) rfl (by kernel_rfl) (by kernel_rfl) (by kernel_rfl) (by kernel_rfl) (by kernel_rfl) (fun _ _ _ h => h) (Or.inl ⟨by rfl, ?y3⟩) HS0.out ?_
      case y3 => intro W hSw; clear hSw; go_simp; try with_reducible rfl
      try simp only [Act.put, List.setIfInBounds_toArray, List.set_cons_zero, List.set_cons_succ]
      refine wpAnyE_take (i := 4) (v := ?v4) rfl (by kernel_rfl) (by kernel_rfl) (by kernel_rfl) (by kernel_rfl) (by kernel_rfl) (fun _ _ _ h => h) (Or.inl ⟨by rfl, ?y4⟩) HS0.out ?_
      case y4 => intro W hSw; obtain ⟨q1, q2, q3, _⟩ := HKP.out W hSw; clear hSw; go_simp; with_reducible rfl
      try simp only [Act.put, List.setIfInBounds_toArray, List.set_cons_zero, List.set_cons_succ]
      have a3 : ∀ w, Calls Tryz.prog 36 #[.agg #[.int .i64 (hiW s), .int .u64 (loW s)], .agg #[.int .i64 (hiW x), .int .u64 (loW x)]] w fun e w' => e = .returned (.agg #[.int .i64 (hiW (s + x)), .int .u64 (loW (s + x))]) ∧ Below w.heap.size w w' := a2
      have a4 : ∀ w, Calls Tryz.prog 37 #[.int .i64 x] w fun e w' => e = .returned (.agg #[.int .i64 (hiW x), .int .u64 (loW x)]) ∧ Below w.heap.size w w' := fun w => a1 w f1 f2
      clear a1 a2
      refine wpAnyE_one (i := 5) (by kernel_rfl) rfl (fun K hK => ?_)
      go_simp
      refine (a4 _).mono ?_
      rintro e w1 ⟨rfl, hb1⟩
      have hb1' : Below wr.heap.size wr w1 := (Below.refl wr.heap.size wr).drew.trans hb1
      go_wp2_with fail
      refine hK.out _ _ (.inr hb1') ?_
      clear hK K
      try simp only [Act.put, List.setIfInBounds_toArray, List.set_cons_zero, List.set_cons_succ]
      refine wpAnyE_one (i := 6) (by kernel_rfl) rfl (fun K hK => ?_)
      go_simp
      refine (a3 _).mono ?_
      rintro e w2 ⟨rfl, hb2⟩
      have hb2' : Below wr.heap.size wr w2 := hb1'.trans (hb2.mono hb1'.size)
      go_wp2_with fail
      refine hK.out _ _ (.inr hb2') ?_
      clear hK K
      try simp only [Act.put, List.setIfInBounds_toArray, List.set_cons_zero, List.set_cons_succ]
      obtain ⟨q1, q2, q3, q4, q5⟩ := HKP.out _ hb2'
      have HB2 := Lib.hid hb2'
      clear hb1 hb1' hb2 hb2' q3
      refine wpAnyE_one (i := 7) (by kernel_rfl) rfl (fun K hK => ?_)
      go_simp
      refine hK.out _ _ (.inl rfl) ?_
      clear hK K q1 q2 q4 q5
      refine wpAnyE_done (by kernel_rfl) ?_ _
      have hE1 := (HB2.out.block w.heap.size HLOW.out).trans HBLK.out
      have hE2 := heap_setCell_same _ w.heap.size 0 _ 75 (Value.int .i64 (hiW (s + x))) hE1
      have hE3 := heap_setCell_same _ w.heap.size 1 _ 75 (Value.int .u64 (loW (s + x))) hE2
      have hE4 := ((HW.out.trans (HB2.out.mono HW.out.size)).setCell (p := ⟨w.heap.size, 0, none⟩) (Nat.le_refl _) (Value.int .i64 (hiW (s + x)))).setCell (p := ⟨w.heap.size, 1, none⟩) (Nat.le_refl _) (Value.int .u64 (loW (s + x)))
      have HE3 := Lib.hid hE3
      have HE4 := Lib.hid hE4
      clear hE1 hE2 hE3 hE4
      go_wp2
      exact ⟨⟨k + 1, by go_num, by omega, Lib.hid ⟨HE4.out, by rw [HSN.out]; exact HE3.out⟩⟩, by simp [intOf]; omega⟩
    · obtain rfl : k = n := by omega
      have hsm := HS.out k (Nat.le_refl _)
      have k0 : wr.cell? ⟨w.heap.size, 0, none⟩ = some (.int .i64 (hiW (sumF f k))) := by unfold World.cell?; rw [hblk]; rfl
      have k1 : wr.cell? ⟨w.heap.size, 1, none⟩ = some (.int .u64 (loW (sumF f k))) := by unfold World.cell?; rw [hblk]; rfl
      have a1 : Calls Tryz.prog 38 #[.agg #[.int .i64 (hiW (sumF f k)), .int .u64 (loW (sumF f k))]] wr fun e w' => e = .returned (fitsV (sumF f k)) ∧ Below wr.heap.size wr w' := fits_any (sumF f k) wr hsm
      have HW := Lib.hid hw
      have HV : ∃ a b, fitsV (sumF f k) = .tuple #[.int .i64 a, .int .i64 b] := by unfold fitsV; split <;> exact ⟨_, _, rfl⟩
      obtain ⟨va, vb, hv⟩ := HV
      rw [hv] at a1
      have HV := Lib.hid hv
      clear hh hw hblk hsm hv
      generalize hiW (sumF f k) = p at *
      generalize loW (sumF f k) = q at *
      go_wp2_with fail
      refine a1.mono ?_
      clear a1
      rintro e w1 ⟨rfl, hb⟩
      have HB := Lib.hid (HW.out.trans (hb.mono HW.out.size))
      clear hb
      go_wp2
      go_ret2
      exact ⟨by rw [HV.out]; rfl, HB.out⟩
end Go.Proofs.YtodekiimkbejnaaGreatDoor
