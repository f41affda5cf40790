/- The Writer's Float: walked; what a NaN is. -/
import Derived.Test.YtnodjcapclkmhaaDoorTexts
namespace Go.Proofs.YtnodjcapclkmhaaDoor
open Go.RowKit

/-- Are these the bits of a NaN? -/
def nan32 (b : Nat) : Bool := decide (2139095040 < b % 2147483648)
theorem order_self (d : Ieee.Datum) : (d.order d == some .eq) = !d.isNaN := by
  cases d with
  | number s m i =>
    show (some (compare (Ieee.signed s m (i - min i i).toNat) (Ieee.signed s m (i - min i i).toNat)) == some .eq) = true
    rw [show ∀ z : Int, compare z z = .eq from fun z => by simp [compare, compareOfLessAndEq]]
    rfl
  | infinity s =>
    show (some (compare s.toNat s.toNat) == some .eq) = true
    rw [show ∀ z : Nat, compare z z = .eq from fun z => by simp [compare, compareOfLessAndEq]]
    rfl
  | nan s t => rfl
theorem read_nan (b : Nat) : (Ieee.single.read b).isNaN = nan32 b := by
  unfold Ieee.Format.read nan32
  rw [show Ieee.single.signWeight = 2147483648 from rfl, show Ieee.single.binade = 8388608 from rfl, show Ieee.single.infRung = 2139095040 from rfl]
  simp only
  split
  · rw [decide_eq_false (by omega)]; rfl
  · split
    · rw [decide_eq_false (by omega)]; rfl
    · split
      · rw [decide_eq_false (by omega)]; rfl
      · rw [decide_eq_true (by omega)]; rfl
theorem floatEq_self (b : Nat) : Op.floatEq .f32 b b = !nan32 b := by
  rw [← read_nan]
  exact order_self (Ieee.single.read b)

theorem ne_self (b : Nat) : (FloatKind.f32.format.order b b != some Ordering.eq) = nan32 b := by
  have := floatEq_self b
  unfold Op.floatEq at this
  unfold bne
  rw [this, Bool.not_not]

theorem run_bits (b : Nat) (w : World) : (callFunc 60 #[.float .f32 b]).run Tryd.prog w = .ok (.value (.int .u32 b)) w := by
  rw [run_callFunc_extern (e := Extern.MathFloatBits.float32bits) Tryd.func60 (by kernel_rfl) (by kernel_rfl) (by kernel_rfl) (by kernel_rfl)]
  rfl
theorem run_frombits (n : Int) (w : World) : (callFunc 40 #[.int .u32 n]).run Tryd.prog w = .ok (.value (.float .f32 n.toNat)) w := by
  rw [run_callFunc_extern (e := Extern.MathFloatBits.float32frombits) Tryd.func40 (by kernel_rfl) (by kernel_rfl) (by kernel_rfl) (by kernel_rfl)]
  rfl

/-- The bits that are written. -/
def fbits (b : Nat) : Nat := if nan32 b then 2143289344 else b

set_option maxRecDepth 100000 in
set_option maxHeartbeats 1000000 in
theorem float_any (B g : Nat) (xs : List Int) (r : Option Nat) (b : Nat) (w : World) (hW : Wri w B g xs r) (hx : b < 4294967296) (hl : xs.length + 4 ≤ 140737488355328) :
    Calls Tryd.prog 33 #[.pointer (some ⟨g, 0, none⟩), .float .f32 b] w fun e w' => e = .returned (.tuple #[]) ∧ ∃ r', Wri w' B g (xs ++ lowL (fbits b) 4) r' ∧ Wrote w w' g r r' := by
  have a1 := low_any B g xs r (fbits b) 4 w hW (by unfold fbits; split <;> omega) (by decide) hl
  have HW := Lib.hid hW; clear hW
  have k1 := run_bits
  have k2 := ne_self b
  unfold fbits at a1 ⊢
  cases h : nan32 b
  · rw [h] at a1 k2
    simp only [Bool.false_eq_true, if_false] at a1 ⊢
    go_enter Tryd.func33, Tryd.ntmps33
    go_wp2_with fail
    refine a1.mono ?_
    rintro e w' ⟨rfl, r', h1, h2⟩
    go_wp2
    go_end0
    exact ⟨rfl, r', h1, h2⟩
  · rw [h] at a1 k2
    simp only [if_true] at a1 ⊢
    go_enter Tryd.func33, Tryd.ntmps33
    go_wp2_with fail
    refine a1.mono ?_
    rintro e w' ⟨rfl, r', h1, h2⟩
    go_wp2
    go_end0
    exact ⟨rfl, r', h1, h2⟩
end Go.Proofs.YtnodjcapclkmhaaDoor
