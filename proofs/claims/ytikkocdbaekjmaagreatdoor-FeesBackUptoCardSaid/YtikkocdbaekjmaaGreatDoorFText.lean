/- fees.Text: walked. -/
import Derived.Test.YtikkocdbaekjmaaGreatDoorFeeF
import Derived.Test.YtikkocdbaekjmaaGreatDoorFeeI
namespace Go.Proofs.YtikkocdbaekjmaaGreatDoor
open Go.RowKit
/-- What Text answers. -/
def txtV (B : Nat → Addr) (n : Nat) (t : Nat → Tier) (l m : Int) : Value :=
  if goodB n t l m = true then .tuple #[.string ⟨(feeTxt n t l m).toArray⟩, .nilIface] else .tuple #[.string ⟨#[]⟩, ev B 7]
set_option maxRecDepth 100000 in
theorem ftext_any (B : Nat → Addr) (A : Option Addr) (n c : Nat) (t : Nat → Tier) (l m : Int) (w : World) (hE : Env w B) (hT : Tiers w A n t) (htab : Tab w) :
    Calls Tryz.prog 12 #[feeV A n c l m] w fun e w' => e = .returned (txtV B n t l m) ∧ Below w.heap.size w w' := by
  have HE := Lib.hid hE; have HT := Lib.hid hT; have HTB := Lib.hid htab
  have HX := Lib.hid (Boxed.new w A n c l m)
  have a1 := check_any B A n c t l m _ (HE.out.below HX.out.below) (hT.imp id fun ⟨b, o, e, hb, hc⟩ => ⟨b, o, e, Nat.lt_of_lt_of_le hb HX.out.below.size, fun i hi =>
    ⟨(HX.out.below.cell (p := ⟨b, o + i * 3, none⟩) hb).trans (hc i hi).1, (HX.out.below.cell (p := ⟨b, o + i * 3 + 1, none⟩) hb).trans (hc i hi).2.1, (HX.out.below.cell (p := ⟨b, o + i * 3 + 2, none⟩) hb).trans (hc i hi).2.2⟩⟩)
  unfold feeV at a1 ⊢
  clear hE hT htab
  go_enter Tryz.func12, Tryz.ntmps12
  go_wp2_with fail
  refine a1.mono ?_
  clear a1
  rintro e w2 ⟨rfl, hb2⟩
  have HX2 := Lib.hid (HX.out.step hb2)
  clear hb2 HX
  have hgg := (HE.out.below HX2.out.below).cell 1 (by decide)
  obtain ⟨x1, x2, x3⟩ := HX2.out.cells
  cases hG : goodB n t l m with
  | false =>
    have R := Lib.hid (show txtV B n t l m = .tuple #[.string ⟨#[]⟩, .iface 292 (.pointer (some (B 0)))] by unfold txtV; rw [hG]; rfl)
    have e7 : chkV B false = .iface 292 (.pointer (some (B 0))) := rfl
    rw [e7]
    clear hG e7
    go_wp2
    go_ret2
    exact ⟨by rw [R.out]; rfl, HX2.out.below⟩
  | true =>
    have e7 : chkV B true = .nilIface := rfl
    rw [e7]
    have R := Lib.hid (show txtV B n t l m = .tuple #[.string ⟨(feeTxt n t l m).toArray⟩, .nilIface] by unfold txtV; rw [if_pos hG])
    have a2 := text_any A n c t l m w2 (HT.out.imp id fun ⟨b, o, e, hb, hc⟩ => ⟨b, o, e, Nat.lt_of_lt_of_le hb HX2.out.below.size, fun i hi =>
      ⟨(HX2.out.below.cell (p := ⟨b, o + i * 3, none⟩) hb).trans (hc i hi).1, (HX2.out.below.cell (p := ⟨b, o + i * 3 + 1, none⟩) hb).trans (hc i hi).2.1, (HX2.out.below.cell (p := ⟨b, o + i * 3 + 2, none⟩) hb).trans (hc i hi).2.2⟩⟩)
      (below_tab HTB.out (HX2.out.below)) (goodP hG)
    unfold feeV at a2
    clear e7 hG hgg
    go_wp2_with fail
    refine a2.mono ?_
    clear a2
    rintro e w3 ⟨rfl, hb3⟩
    go_wp2
    go_ret2
    exact ⟨by rw [R.out]; rfl, (HX2.out.step hb3).below⟩
end Go.Proofs.YtikkocdbaekjmaaGreatDoor
