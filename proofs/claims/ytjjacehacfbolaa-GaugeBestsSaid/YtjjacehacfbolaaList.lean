/- list: floats of bits, in memory of the call's own. -/
import Derived.Test.YtjjacehacfbolaaBest
import Derived.OwnWalk
import Derived.Maps.AppendAt
namespace Go.Proofs.Ytjjacehacfbolaa
open Go.RowKit

theorem info24 : (Try.prog.info? 24).map (fun i => (i.zero, i.size, i.bytes)) = some (some (.float .f32 0), 1, 4) := by kernel_rfl
theorem info4 : (Try.prog.info? 4).map (fun i => (i.zero, i.size, i.bytes)) = some (some (.bool false), 1, 1) := by kernel_rfl

/-- The first k floats of the bits z. -/
def flo (z : Nat → Nat) (k : Nat) : List Value := (List.range k).map fun i => .float .f32 (z i)
theorem flo_len (z : Nat → Nat) (k : Nat) : (flo z k).length = k := by simp [flo]
theorem flo_snoc (z : Nat → Nat) (k : Nat) : flo z k ++ [.float .f32 (z k)] = flo z (k + 1) := by simp [flo, List.range_succ]

theorem of_nat (b : Nat) (w : World) : Calls Try.prog 7 #[.int .u32 b] w fun e w' => e = .returned (.float .f32 b) ∧ w = w' := of_any b w

set_option maxHeartbeats 1000000 in
theorem list_any (A : Option Addr) (n ca : Nat) (z : Nat → Nat) (w : World) (hA : Sl w A n (fun i => .int .u32 (z i))) (hn : n * 4 ≤ 140737488351232) :
    Calls Try.prog 10 #[.slice A n ca] w fun e w' => ∃ v, e = .returned v ∧ w'.ownsRow w.heap.size 24 1 v n (flo z n) ∧ Below w.heap.size w w' := by
  obtain ⟨i0, hi, hz0, hz1, hz2⟩ := info_parts info24
  have HA := Lib.hid hA; clear hA
  go_enter Try.func10, Try.ntmps10
  go_wp2
  go_loopw [3, 9] (fun v i wr => ∃ k : Nat, k ≤ n ∧ i = .int .i64 k ∧ wr.ownsRow w.heap.size 24 1 v k (flo z k) ∧ Below w.heap.size w wr ∧ w.heap.size < wr.heap.size) (fun _ i _ => n - (intOf i).toNat)
  case atStart =>
    refine ⟨0, Nat.zero_le _, rfl, ?_, (Below.refl _ _).alloc (Nat.le_refl _) _, by simp⟩
    exact World.ownsRow_made w #[] 0 (Nat.le_refl _) (by decide) rfl
  case round =>
    obtain ⟨k, hk, rfl, hown, hbel, hsz⟩ := hrel
    by_cases hlt : k < n
    · obtain ⟨g1, o1, rfl, hg1, hc1⟩ := HA.out (by omega)
      have c1 : wr.cell? ⟨g1, o1 + k, none⟩ = some (.int .u32 (z k)) := (hbel.cell (by exact hg1)).trans (hc1 k hlt)
      have HC1 := Lib.hid hc1; clear hc1
      have HB := Lib.hid hbel; clear hbel
      have hn2 : k + 1 ≤ 35184372088808 := by omega
      go_wp2_with (first
        | (go_at_call 7; refine (of_nat _ _).mono ?_; rintro e w' ⟨rfl, rfl⟩)
        | (at_builtin; refine wpList_append_own _ rfl _ _ 31 rfl w.heap.size 24 i0 (.float .f32 0) 1 4 Try.underlying31 hi hz0 hz1 hz2 rfl (by decide) _ _ _ rfl (hown.alloc _) ⟨wr.heap.size, 0, none⟩ 1 1 [.float .f32 (z k)] rfl rfl (cell_one_new _ _ _) ?c2 ?c3 ?c4 ?c5 ?_))
      case c2 => intro u hu; simp at hu; subst hu; rfl
      case c3 => unfold maxLen; omega
      case c4 => omega
      case c5 => simp; omega
      · intro v' w1 hown' hgrow _
        rw [flo_snoc] at hown'
        have R : Below w.heap.size w w1 := (HB.out.alloc (by omega) _).grown hgrow (by simp; omega) (fun g hg => (hown.lt g hg).1)
        have S1 : w.heap.size < w1.heap.size := by have := hgrow.size; simp at this; omega
        clear hgrow hown
        go_wp2
        go_roundw
        case rel => exact ⟨k + 1, by omega, by go_num, hown', R, S1⟩
        case measure => simp [intOf]; omega
    · obtain rfl : k = n := by omega
      go_wp2
      go_ret
      exact ⟨_, rfl, hown, hbel⟩
end Go.Proofs.Ytjjacehacfbolaa
