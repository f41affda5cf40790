/- math/big: bits.Add, bits.Sub, addVV, addVW, subVV, subVW over one word; nat.make, nat.norm: walked. -/
import Derived.Test.YthkobjbemmllfaaGreatDoorNum
import Derived.WalkKit
import Derived.Deep.QuietTactic
import Derived.BigQuiet
import Derived.Lib.Hide
import Derived.Laws.Externs
import Derived.Laws.Twins
import Derived.Laws.IdiomCopy
import Derived.Laws.MakeOwn
import Derived.Deep.RegionLaw
namespace Go.Proofs.YthkobjbemmllfaaGreatDoor
open Go.RowKit

theorem run_add (x y c : Nat) (hc : c ≤ 1) (w : World) : (callFunc 121 #[.int .u64 x, .int .u64 y, .int .u64 c]).run Tryz.prog w = .ok (.value (.tuple #[.int .u64 (((x + y + c) % 18446744073709551616 : Nat) : Int), .int .u64 (((x + y + c) / 18446744073709551616 : Nat) : Int)])) w := by
  rw [run_callFunc_extern (e := add64Entry) Tryz.func121 (by kernel_rfl) (by kernel_rfl) (by kernel_rfl) (by kernel_rfl), run_add64 x y c (by omega) (by omega) (by omega) (by omega)]
  simp only [Result.andThen]
  congr 5 <;> omega
def sub64Entry : Array Value → Sem Value := fun args => do
  let (x, y, b) ← Extern.MathBitsCarry.three "Sub64" args
  pure (Extern.MathBitsCarry.pair ((x + Extern.MathBitsCarry.m64 - y - b) % Extern.MathBitsCarry.m64) (if x < y + b then 1 else 0))
theorem run_sub64 (x y b : Nat) (hb : b ≤ 1) (w : World) :
    (sub64Entry #[.int .u64 x, .int .u64 y, .int .u64 b]).run Tryz.prog w =
      .ok (.tuple #[.int .u64 (((x + 18446744073709551616 - y - b) % 18446744073709551616 : Nat) : Int), .int .u64 ((if x < y + b then 1 else 0 : Nat) : Int)]) w := by
  have : b = 0 ∨ b = 1 := by omega
  rcases this with rfl | rfl <;> rfl
theorem run_sub (x y b : Nat) (hb : b ≤ 1) (w : World) : (callFunc 123 #[.int .u64 x, .int .u64 y, .int .u64 b]).run Tryz.prog w = .ok (.value (.tuple #[.int .u64 (((x + 18446744073709551616 - y - b) % 18446744073709551616 : Nat) : Int), .int .u64 ((if x < y + b then 1 else 0 : Nat) : Int)])) w := by
  rw [run_callFunc_extern (e := sub64Entry) Tryz.func123 (by kernel_rfl) (by kernel_rfl) (by kernel_rfl) (by kernel_rfl), run_sub64 x y b hb]
  rfl

/-- What a sum of two words and a carry is. -/
def adS (x y c : Nat) : Nat := (x + y + c) % 18446744073709551616
def adC (x y c : Nat) : Nat := (x + y + c) / 18446744073709551616
theorem badd_any (x y c : Nat) (hc : c ≤ 1) (w : World) : Calls Tryz.prog 83 #[.int .u64 x, .int .u64 y, .int .u64 c] w fun e w' => e = .returned (.tuple #[.int .u64 (adS x y c), .int .u64 (adC x y c)]) ∧ w = w' := by
  have k := fun w => run_add x y c hc w
  unfold adS adC
  generalize (x + y + c) % 18446744073709551616 = a at *
  generalize (x + y + c) / 18446744073709551616 = b at *
  go_enter Tryz.func83, Tryz.ntmps83
  go_wp2
  go_ret2
  exact ⟨rfl, rfl⟩
def sbS (x y b : Nat) : Nat := (x + 18446744073709551616 - y - b) % 18446744073709551616
def sbC (x y b : Nat) : Nat := if x < y + b then 1 else 0
theorem bsub_any (x y c : Nat) (hc : c ≤ 1) (w : World) : Calls Tryz.prog 86 #[.int .u64 x, .int .u64 y, .int .u64 c] w fun e w' => e = .returned (.tuple #[.int .u64 (sbS x y c), .int .u64 (sbC x y c)]) ∧ w = w' := by
  have k := fun w => run_sub x y c hc w
  unfold sbS sbC
  generalize (x + 18446744073709551616 - y - c) % 18446744073709551616 = a at *
  generalize (if x < y + c then 1 else 0 : Nat) = b at *
  go_enter Tryz.func86, Tryz.ntmps86
  go_wp2
  go_ret2
  exact ⟨rfl, rfl⟩
theorem twin_add (args : Array Value) (w : World) : (callFunc 80 args).run Tryz.prog w = .ok (.enter 32 args) w :=
  run_callFunc_twin (twin := "math/big.addVV_g") Tryz.func80 (by kernel_rfl) (by kernel_rfl) (by kernel_rfl) (by kernel_rfl) Tryz.func32 (by kernel_rfl) (by kernel_rfl) (by kernel_rfl) args w
theorem twin_sub (args : Array Value) (w : World) : (callFunc 84 args).run Tryz.prog w = .ok (.enter 33 args) w :=
  run_callFunc_twin (twin := "math/big.subVV_g") Tryz.func84 (by kernel_rfl) (by kernel_rfl) (by kernel_rfl) (by kernel_rfl) Tryz.func33 (by kernel_rfl) (by kernel_rfl) (by kernel_rfl) args w
theorem same_sym {P : Program} {f : FuncId} {args : Array Value} {w : World} {v : Value} (h : Calls P f args w fun e w' => e = .returned v ∧ w = w') : Calls P f args w fun e w' => e = .returned v ∧ w' = w := h.mono fun _ _ h => ⟨h.1, h.2.symm⟩

set_option maxRecDepth 100000 in
set_option maxHeartbeats 1000000 in
theorem addVV_one (gz gx gy cz cx cy x y : Nat) (u : Value) (w : World) (hz : w.cell? ⟨gz, 0, none⟩ = some u) (hf : w.frozen? ⟨gz, 0, none⟩ = false) (hx : w.cell? ⟨gx, 0, none⟩ = some (.int .u64 x)) (hy : w.cell? ⟨gy, 0, none⟩ = some (.int .u64 y)) :
    Calls Tryz.prog 32 #[.slice (some ⟨gz, 0, none⟩) 1 cz, .slice (some ⟨gx, 0, none⟩) 1 cx, .slice (some ⟨gy, 0, none⟩) 1 cy] w fun e w' => e = .returned (.int .u64 (adC x y 0)) ∧ ∃ k, w' = (w.setCell ⟨gz, 0, none⟩ (.int .u64 (adS x y 0))).drewN k := by
  have a1 := fun n => same_sym (badd_any x y 0 (by decide) (w.drewN n))
  generalize adC x y 0 = c at *
  generalize adS x y 0 = s at *
  go_enter Tryz.func32, Tryz.ntmps32
  go_wp2_with fail
  go_loopw [25, 6, 7, 8, 9] (fun vi vc _ _ _ wr => (vi = .int .i64 0 ∧ vc = .int .u64 0 ∧ wr = w) ∨ (vi = .int .i64 1 ∧ vc = .int .u64 c ∧ Hid (∃ k, wr = (w.setCell ⟨gz, 0, none⟩ (.int .u64 s)).drewN k))) (fun vi _ _ _ _ _ => 1 - (intOf vi).toNat)
  case atStart => exact .inl ⟨rfl, rfl, rfl⟩
  case round =>
    rcases hrel with ⟨rfl, rfl, hw⟩ | ⟨rfl, rfl, hw⟩
    · subst wr
      go_wp2_with fail
      go_quiet ((go_at_call 83; exact Calls.quiet_of_same (a1 _)))
      go_wp2
      go_roundw
      case rel => exact .inr ⟨rfl, rfl, Lib.hid ⟨_, rfl⟩⟩
      case measure => simp [intOf]
    · go_wp2
      go_ret
      exact ⟨rfl, hw.out⟩
set_option maxRecDepth 100000 in
set_option maxHeartbeats 1000000 in
theorem subVV_one (gz gx gy cz cx cy x y : Nat) (u : Value) (w : World) (hz : w.cell? ⟨gz, 0, none⟩ = some u) (hf : w.frozen? ⟨gz, 0, none⟩ = false) (hx : w.cell? ⟨gx, 0, none⟩ = some (.int .u64 x)) (hy : w.cell? ⟨gy, 0, none⟩ = some (.int .u64 y)) :
    Calls Tryz.prog 33 #[.slice (some ⟨gz, 0, none⟩) 1 cz, .slice (some ⟨gx, 0, none⟩) 1 cx, .slice (some ⟨gy, 0, none⟩) 1 cy] w fun e w' => e = .returned (.int .u64 (sbC x y 0)) ∧ ∃ k, w' = (w.setCell ⟨gz, 0, none⟩ (.int .u64 (sbS x y 0))).drewN k := by
  have a1 := fun n => same_sym (bsub_any x y 0 (by decide) (w.drewN n))
  generalize sbC x y 0 = c at *
  generalize sbS x y 0 = s at *
  go_enter Tryz.func33, Tryz.ntmps33
  go_wp2_with fail
  go_loopw [25, 6, 7, 8, 9] (fun vi vc _ _ _ wr => (vi = .int .i64 0 ∧ vc = .int .u64 0 ∧ wr = w) ∨ (vi = .int .i64 1 ∧ vc = .int .u64 c ∧ Hid (∃ k, wr = (w.setCell ⟨gz, 0, none⟩ (.int .u64 s)).drewN k))) (fun vi _ _ _ _ _ => 1 - (intOf vi).toNat)
  case atStart => exact .inl ⟨rfl, rfl, rfl⟩
  case round =>
    rcases hrel with ⟨rfl, rfl, hw⟩ | ⟨rfl, rfl, hw⟩
    · subst wr
      go_wp2_with fail
      go_quiet ((go_at_call 86; exact Calls.quiet_of_same (a1 _)))
      go_wp2
      go_roundw
      case rel => exact .inr ⟨rfl, rfl, Lib.hid ⟨_, rfl⟩⟩
      case measure => simp [intOf]
    · go_wp2
      go_ret
      exact ⟨rfl, hw.out⟩
theorem info66 : (Tryz.prog.info? 66).map (fun i => (i.zero, i.size, i.bytes)) = some (some (.int .u64 0), 1, 8) := by kernel_rfl
theorem neq_self (a : Addr) (w : World) : (binOp .neq 103 (.pointer (some a)) (.pointer (some a))).run Tryz.prog w = .ok (.bool false) w := by
  obtain ⟨j, hj, _⟩ := info_parts info66
  have h : ∀ d : Nat, (Op.equalIn (d + 1) 103 (.pointer (some a)) (.pointer (some a))).run Tryz.prog w = .ok true w := fun d => by
    simp [Op.equalIn, run_underlying Tryz.underlying103, sizeOf, typeInfo, hj, run_sameAddr_same]
  simp only [binOp]
  simp [Op.equal, Op.maxDepth, h 9999]
set_option maxRecDepth 100000 in
set_option maxHeartbeats 1000000 in
theorem addVW_one (g cz cx x c : Nat) (w : World) (hf : w.frozen? ⟨g, 1, none⟩ = false) (hx : w.cell? ⟨g, 1, none⟩ = some (.int .u64 x)) (hx2 : x < 18446744073709551616) (hc : c ≤ 1) :
    Calls Tryz.prog 81 #[.slice (some ⟨g, 1, none⟩) 1 cz, .slice (some ⟨g, 1, none⟩) 1 cx, .int .u64 c] w fun e w' => e = .returned (.int .u64 (adC x c 0)) ∧ ∃ k, w' = (w.setCell ⟨g, 1, none⟩ (.int .u64 (adS x c 0))).drewN k := by
  have a1 : ∀ w, Calls Tryz.prog 83 #[.int .u64 x, .int .u64 c, .int .u64 0] w fun e w' => e = .returned (.tuple #[.int .u64 (adS x c 0), .int .u64 (adC x c 0)]) ∧ w = w' := fun w => badd_any x c 0 (by decide) w
  have kn := neq_self ⟨g, 1, none⟩
  have h1 : adC x c 0 = 0 ∨ adC x c 0 = 1 := by unfold adC; omega
  generalize adC x c 0 = q at *
  generalize adS x c 0 = s at *
  clear hx2
  rcases h1 with rfl | rfl
  · go_enter Tryz.func81, Tryz.ntmps81
    go_wp2_with fail
    refine (a1 _).mono ?_
    rintro e w1 ⟨rfl, rfl⟩
    go_wp2
    go_quiet (fail)
    go_wp2
    go_ret
    exact ⟨rfl, _, rfl⟩
  · go_enter Tryz.func81, Tryz.ntmps81
    go_wp2_with fail
    refine (a1 _).mono ?_
    rintro e w1 ⟨rfl, rfl⟩
    go_wp2_with fail
    go_loopw [9, 10] (fun vi _ wr => vi = .int .i64 1 ∧ wr = w.setCell ⟨g, 1, none⟩ (.int .u64 s)) (fun _ _ _ => (0 : Nat))
    case atStart => exact ⟨rfl, rfl⟩
    case round =>
      obtain ⟨rfl, hw⟩ := hrel
      subst wr
      go_wp2
      go_ret
      exact ⟨rfl, 0, rfl⟩

set_option maxRecDepth 100000 in
set_option maxHeartbeats 1000000 in
theorem subVW_one (g cz cx x c : Nat) (w : World) (hf : w.frozen? ⟨g, 1, none⟩ = false) (hx : w.cell? ⟨g, 1, none⟩ = some (.int .u64 x)) :
    Calls Tryz.prog 85 #[.slice (some ⟨g, 1, none⟩) 1 cz, .slice (some ⟨g, 1, none⟩) 1 cx, .int .u64 c] w fun e w' => e = .returned (.int .u64 (sbC x c 0)) ∧ ∃ k, w' = (w.setCell ⟨g, 1, none⟩ (.int .u64 (sbS x c 0))).drewN k := by
  have a1 : ∀ w, Calls Tryz.prog 86 #[.int .u64 x, .int .u64 c, .int .u64 0] w fun e w' => e = .returned (.tuple #[.int .u64 (sbS x c 0), .int .u64 (sbC x c 0)]) ∧ w = w' := fun w => bsub_any x c 0 (by decide) w
  have kn := neq_self ⟨g, 1, none⟩
  have h1 : sbC x c 0 = 0 ∨ sbC x c 0 = 1 := by unfold sbC; split <;> simp
  generalize sbC x c 0 = q at *
  generalize sbS x c 0 = s at *
  rcases h1 with rfl | rfl
  · go_enter Tryz.func85, Tryz.ntmps85
    go_wp2_with fail
    refine (a1 _).mono ?_
    rintro e w1 ⟨rfl, rfl⟩
    go_wp2
    go_quiet (fail)
    go_wp2
    go_ret
    exact ⟨rfl, _, rfl⟩
  · go_enter Tryz.func85, Tryz.ntmps85
    go_wp2_with fail
    refine (a1 _).mono ?_
    rintro e w1 ⟨rfl, rfl⟩
    go_wp2_with fail
    go_loopw [9, 10] (fun vi _ wr => vi = .int .i64 1 ∧ wr = w.setCell ⟨g, 1, none⟩ (.int .u64 s)) (fun _ _ _ => (0 : Nat))
    case atStart => exact ⟨rfl, rfl⟩
    case round =>
      obtain ⟨rfl, hw⟩ := hrel
      subst wr
      go_wp2
      go_ret
      exact ⟨rfl, 0, rfl⟩

end Go.Proofs.YthkobjbemmllfaaGreatDoor
