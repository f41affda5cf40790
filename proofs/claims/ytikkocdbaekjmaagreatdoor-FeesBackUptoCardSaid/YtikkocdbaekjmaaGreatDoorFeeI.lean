/- remitlaw18.lives: walked. -/
import Derived.Test.YtikkocdbaekjmaaGreatDoorFeeH
namespace Go.Proofs.YtikkocdbaekjmaaGreatDoor
open Go.RowKit
def livesText : ByteArray := ⟨#[48, 58, 50, 53, 43, 49, 53, 48, 44, 49, 48, 48, 48, 48, 48, 58, 48, 43, 57, 48, 32, 109, 105, 110, 32, 49, 48, 32, 109, 97, 120, 32, 53, 48, 48]⟩
def liveTs : List (Nat × Nat × Nat) := [(0, 25, 150), (100000, 0, 90)]
theorem lives_parse : parseF livesText = some (liveTs, 10, 500) := by kernel_rfl
theorem lives_fee (B : Nat → Addr) : feeR B 2 (tierAt liveTs) 10 500 1000 = .tuple #[.int .i64 40, .nilIface] := by kernel_rfl
theorem lives_nought (B : Nat → Addr) : feeR B 2 (tierAt liveTs) 10 500 0 = .tuple #[.int .i64 0, ev B 9] := by kernel_rfl
theorem Tiers.step {w w' : World} {A : Option Addr} {n : Nat} {t : Nat → Tier} (h : Tiers w A n t) (hb : Below w.heap.size w w') : Tiers w' A n t :=
  h.imp id fun ⟨b, o, e, hl, hc⟩ => ⟨b, o, e, Nat.lt_of_lt_of_le hl hb.size, fun i hi =>
    ⟨(hb.cell (p := ⟨b, o + i * 3, none⟩) hl).trans (hc i hi).1, (hb.cell (p := ⟨b, o + i * 3 + 1, none⟩) hl).trans (hc i hi).2.1, (hb.cell (p := ⟨b, o + i * 3 + 2, none⟩) hl).trans (hc i hi).2.2⟩⟩
set_option maxRecDepth 100000 in
set_option maxHeartbeats 4000000 in
theorem lives_any (B : Nat → Addr) (m : Int) (w : World) (hm : w.cell? ⟨39, 0, none⟩ = some (.int .i64 m)) (hE : Env w B) (htab : Tab w) :
    Calls Tryz.prog 6 #[] w fun e w' => e = .returned (.bool true) ∧ Below w.heap.size w w' := by
  have HE := Lib.hid hE
  have a1 := parse_any B livesText m w (by decide) hm hE htab
  unfold livesText at a1
  clear hE htab hm
  go_enter Tryz.func6, Tryz.ntmps6
  go_wp2_with fail
  refine a1.mono ?_
  clear a1
  rintro e w1 ⟨hb1, ⟨ts, l, m2, A, c, hp, ho, he⟩ | ⟨hp, _⟩⟩
  · have hp := lives_parse.symm.trans hp
    simp only [Option.some.injEq, Prod.mk.injEq] at hp
    obtain ⟨rfl, rfl, rfl⟩ := hp
    have he : e = .returned (.tuple #[.agg #[.slice A 2 c, .int .i64 10, .int .i64 500], .nilIface]) := he
    subst he
    have ht : Tiers w1 A 2 (tierAt liveTs) := tiers_own ho
    have hn := Below.new w1 (.cells #[.slice A 2 c, .int .i64 10, .int .i64 500] 25)
    have HB1 := Lib.hid (hb1.trans (hn.mono hb1.size))
    have HT1 := Lib.hid (ht.step hn)
    have HX1 := Lib.hid (show (w1.alloc (.cells #[.slice A 2 c, .int .i64 10, .int .i64 500] 25)).heap[w1.heap.size]? = some (.cells #[.slice A 2 c, .int .i64 10, .int .i64 500] 25 (0, 0)) from heap_alloc_new w1 _)
    clear hb1 ho ht hn
    have a2 := fee_any B A 2 c (tierAt liveTs) 10 500 1000 _ (HE.out.below HB1.out) HT1.out
    rw [lives_fee] at a2
    unfold feeV at a2
    go_wp2_with fail
    refine a2.mono ?_
    clear a2
    rintro e w2 ⟨rfl, hb2⟩
    generalize w1.alloc (.cells #[.slice A 2 c, .int .i64 10, .int .i64 500] 25) = w3 at *
    generalize w1.heap.size = g at *
    have HB2 := Lib.hid (HB1.out.trans (hb2.mono HB1.out.size))
    have HT2 := Lib.hid (HT1.out.step hb2)
    have HX2 := Lib.hid ((hb2.block _ (lt_of_block HX1.out)).trans HX1.out)
    clear hb2 HB1 HT1 HX1
    have a3 := fee_any B A 2 c (tierAt liveTs) 10 500 0 w2 (HE.out.below HB2.out) HT2.out
    rw [lives_nought] at a3
    unfold feeV at a3
    obtain ⟨x0, x1, x2⟩ := box3 HX2.out
    go_wp2_with fail
    refine a3.mono ?_
    clear a3 x0 x1 x2
    rintro e w4 ⟨rfl, hb4⟩
    have HB4 := Lib.hid (HB2.out.trans (hb4.mono HB2.out.size))
    clear hb4 HB2 HT2 HX2
    have a4 := num_any B w4 (HE.out.below HB4.out) 9 (by decide)
    go_wp2_with fail
    refine a4.mono ?_
    clear a4
    rintro e w5 ⟨rfl, hb5⟩
    have HB5 := Lib.hid (HB4.out.trans (hb5.mono HB4.out.size))
    clear hb5 HB4
    have a5 := check_any B none 0 0 (tierAt []) 0 0 w5 (HE.out.below HB5.out) (.inl rfl)
    rw [show chkV B (goodB 0 (tierAt []) 0 0) = ev B 7 from rfl] at a5
    unfold feeV at a5
    go_wp2_with fail
    refine a5.mono ?_
    clear a5
    rintro e w6 ⟨rfl, hb6⟩
    have HB6 := Lib.hid (HB5.out.trans (hb6.mono HB5.out.size))
    clear hb6 HB5
    have a6 := num_any B w6 (HE.out.below HB6.out) 7 (by decide)
    go_wp2_with fail
    refine a6.mono ?_
    clear a6
    rintro e w7 ⟨rfl, hb7⟩
    have HB7 := Lib.hid (HB6.out.trans (hb7.mono HB6.out.size))
    clear hb7 HB6
    go_wp2
    go_ret
    exact ⟨rfl, HB7.out⟩
  · have hp := lives_parse.symm.trans hp
    cases hp
end Go.Proofs.YtikkocdbaekjmaaGreatDoor
