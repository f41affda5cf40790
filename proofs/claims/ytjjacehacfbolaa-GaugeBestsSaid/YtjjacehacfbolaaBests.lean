/- The walk of GaugeBests: it answers true and turns nothing that was there. -/
import Derived.Test.YtjjacehacfbolaaRef
import Derived.Test.YtjjacehacfbolaaMem
namespace Go.Proofs.Ytjjacehacfbolaa
open Go.RowKit

theorem run_bits (b : Nat) (w : World) : (callFunc 17 #[.float .f32 b]).run Try.prog w = .ok (.value (.int .u32 b)) w := by
  rw [run_callFunc_extern (e := Extern.MathFloatBits.float32bits) Try.func17 (by kernel_rfl) (by kernel_rfl) (by kernel_rfl) (by kernel_rfl)]
  rfl

theorem bitsOf_any (b : Nat) (w : World) : Calls Try.prog 13 #[.float .f32 b] w fun e w' => e = .returned (.int .u32 b) ∧ w' = w := by
  have h := run_bits
  go_enter Try.func13, Try.ntmps13
  go_wp2
  go_ret
  exact ⟨rfl, rfl⟩
theorem of_same (b : Nat) (w : World) : Calls Try.prog 7 #[.int .u32 b] w fun e w' => e = .returned (.float .f32 b) ∧ w' = w := (of_nat b w).mono fun _ _ h => ⟨h.1, h.2.symm⟩

theorem own_bools {w : World} {B n : Nat} {v : Value} {f : Nat → Bool} (h : w.ownsRow B 4 1 v n ((List.range n).map fun i => Value.bool (f i))) :
    ∃ A c, v = .slice A n c ∧ Sl w A n (fun i => .bool (f i)) := by
  rcases h.2 with ⟨rfl, rfl⟩ | ⟨g, cap, cur, rfl, _, hg, _⟩
  · exact ⟨none, 0, rfl, fun h => absurd h (Nat.lt_irrefl _)⟩
  · refine ⟨some ⟨g, 0, none⟩, cap, rfl, fun _ => ⟨g, 0, rfl, (Array.getElem?_eq_some_iff.1 hg).1, fun i hi => ?_⟩⟩
    rw [Nat.zero_add, h.cellAt i (by omega)]
    simp [List.getElem?_range hi]

set_option maxHeartbeats 2000000 in
theorem bests_walk (A : Option Addr) (n ca : Nat) (B : Option Addr) (m cb : Nat) (z : Nat → Nat) (may : Nat → Bool) (w : World)
    (hA : Sl w A n (fun i => .int .u32 (z i))) (hB : Sl w B m (fun i => .bool (may i))) (hz : ∀ i, i < n → z i < 4294967296)
    (hn : n * 4 ≤ 140737488351232) (hm : m ≤ 140737488351232) :
    Calls Try.prog 5 #[.slice A n ca, .slice B m cb] w fun e w' => e = .returned (.bool true) ∧ Below w.heap.size w w' := by
  obtain ⟨i0, hi, hz0, hz1, hz2⟩ := info_parts info4
  have HA := Lib.hid hA; clear hA
  have HB := Lib.hid hB; clear hB
  have HZ := Lib.hid hz; clear hz
  go_enter Try.func5, Try.ntmps5
  go_wp2_with (go_at_call 6; refine (lives_any _).mono ?_; rintro e w' ⟨rfl, rfl⟩)
  refine (list_any A n ca z _ HA.out hn).mono ?_
  rintro e w1 ⟨v, rfl, hown, hbel⟩
  obtain ⟨A1, c1, rfl, hs1⟩ := own_sl hown
  have HS1 := Lib.hid hs1; clear hs1 hown
  have HB1 := Lib.hid (HB.out.below hbel)
  have HBEL := Lib.hid hbel; clear hbel
  have hsz := HBEL.out.size
  go_wp2_with (at_builtin; refine wpList_append_sl _ rfl _ _ 30 rfl w1.heap.size 4 i0 (.bool false) 1 Try.underlying30 hi hz0 hz1 hz2 rfl _ 0 [] rfl (World.ownsRow_made w1 #[] 0 (Nat.le_refl _) (by decide) rfl) B m cb (fun i => .bool (may i)) rfl (HB1.out.below ((Below.refl _ _).alloc (Nat.le_refl _) _)) (fun _ _ => rfl) ?c1 ?c2 ?c3 ?_)
  case c1 => unfold maxLen; omega
  case c2 => omega
  case c3 => simp
  intro v' w2 hown hgrow hat
  obtain ⟨A2, c2, rfl, hs2⟩ := own_bools hown
  have hb2 : Below w1.heap.size w1 w2 := ((Below.refl _ _).alloc (Nat.le_refl _) _).grown hgrow (by simp) (fun g hg => by simp [Value.ownBlock] at hg; omega)
  have HS2 := Lib.hid hs2; clear hs2 hown hgrow hat
  have HSA := Lib.hid (HS1.out.below hb2)
  have HBA := Lib.hid (HBEL.out.trans (hb2.mono hsz))
  clear hb2
  go_wp2_with fail
  refine (best_any A1 n c1 A2 m c2 z may _ HSA.out HS2.out HZ.out (by omega) (by omega)).mono ?_
  rintro e w' ⟨rfl, rfl⟩
  go_wp2_with fail
  go_loopw [24] (fun i wr => ∃ k : Nat, k ≤ n ∧ i = .int .i64 k ∧ Hid (∃ d : Nat, wr = w2.drewN d)) (fun i _ => n - (intOf i).toNat)
  case atStart => exact ⟨0, Nat.zero_le _, rfl, 0, rfl⟩
  case round =>
    obtain ⟨k, hk, rfl, hd⟩ := hrel
    have hcell : Hid (∀ a, wr.cell? a = w2.cell? a) := by
      obtain ⟨d, rfl⟩ := hd.out
      exact fun _ => rfl
    by_cases hlt : k < n
    · obtain ⟨g1, o1, rfl, hg1, hc1⟩ := HA.out (by omega)
      have ca : wr.cell? ⟨g1, o1 + k, none⟩ = some (.int .u32 (z k)) := (hcell.out _).trans ((HBA.out.cell (by exact hg1)).trans (hc1 k hlt))
      have HC1 := Lib.hid hc1; clear hc1
      obtain ⟨g2, o2, rfl, _, hc2⟩ := HSA.out (by omega)
      have cf : wr.cell? ⟨g2, o2 + k, none⟩ = some (.float .f32 (z k)) := (hcell.out _).trans (hc2 k hlt)
      have HC2 := Lib.hid hc2; clear hc2
      have i1 : (0 : Int) ≤ (k : Int) := by omega
      have i2 : (k : Int) < (n : Int) := by omega
      go_wp2
      go_quiet ((first | (go_at_call 13; exact Calls.quiet_of_same (bitsOf_any _ _)) | (go_at_call 7; exact Calls.quiet_of_same (of_same _ _))))
      go_wp2
      go_roundw
      case rel => exact ⟨k + 1, by omega, by go_num, quiet_more0 hd⟩
      case measure => simp [intOf]; omega
    · obtain rfl : k = n := by omega
      have HS3 : Hid (Sl wr A2 m fun i => .bool (may i)) := by
        obtain ⟨d, rfl⟩ := hd.out
        exact HS2.out.drewN d
      have HB3 : Hid (Below w.heap.size w wr) := by
        obtain ⟨d, rfl⟩ := hd.out
        exact ⟨HBA.out.os, HBA.out.tape, HBA.out.output, HBA.out.size, HBA.out.block⟩
      clear hcell hd HSA HBA HS2
      obtain ⟨w3, hw3⟩ : ∃ x, x = wr := ⟨_, rfl⟩
      rw [← hw3] at HB3 HS3 ⊢
      clear hw3
      go_wp2_with fail
      go_loopw [42] (fun i wr => ∃ k : Nat, k ≤ m ∧ i = .int .i64 k ∧ Hid (∃ d : Nat, wr = w3.drewN d)) (fun i _ => m - (intOf i).toNat)
      case atStart => exact ⟨0, Nat.zero_le _, rfl, 0, rfl⟩
      case round =>
        obtain ⟨j, hj, rfl, hd⟩ := hrel
        have hcell : Hid (∀ a, wr.cell? a = w3.cell? a) := by
          obtain ⟨d, rfl⟩ := hd.out
          exact fun _ => rfl
        by_cases hlt : j < m
        · obtain ⟨g1, o1, rfl, hg1, hc1⟩ := HB.out (by omega)
          have ca : wr.cell? ⟨g1, o1 + j, none⟩ = some (.bool (may j)) := (hcell.out _).trans ((HB3.out.cell (by exact hg1)).trans (hc1 j hlt))
          have HC1 := Lib.hid hc1; clear hc1
          obtain ⟨g2, o2, rfl, _, hc2⟩ := HS3.out (by omega)
          have cf : wr.cell? ⟨g2, o2 + j, none⟩ = some (.bool (may j)) := (hcell.out _).trans (hc2 j hlt)
          have HC2 := Lib.hid hc2; clear hc2
          have i1 : (0 : Int) ≤ (j : Int) := by omega
          have i2 : (j : Int) < (m : Int) := by omega
          generalize may j = y at ca cf
          cases y
          all_goals
            go_wp2
            go_quiet (fail)
            go_wp2
            go_roundw
            case rel => exact ⟨j + 1, by omega, by go_num, quiet_more0 hd⟩
            case measure => simp [intOf]; omega
        · obtain rfl : j = m := by omega
          have HB4 : Hid (Below w.heap.size w wr) := by
            obtain ⟨d, rfl⟩ := hd.out
            exact ⟨HB3.out.os, HB3.out.tape, HB3.out.output, HB3.out.size, HB3.out.block⟩
          clear hcell hd
          go_wp2_with fail
          refine (rbest_any A _ ca B _ cb z may _ (HA.out.below HB4.out) (HB.out.below HB4.out) (by omega) (by omega)).mono ?_
          rintro e w' ⟨rfl, d, rfl⟩
          go_wp2
          go_ret
          exact ⟨ret_b (by simp), HB4.out.os, HB4.out.tape, HB4.out.output, HB4.out.size, HB4.out.block⟩
end Go.Proofs.Ytjjacehacfbolaa
