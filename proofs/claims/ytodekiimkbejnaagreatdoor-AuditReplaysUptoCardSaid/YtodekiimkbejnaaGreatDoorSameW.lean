/- remitlaw28.sameLegs: walked, where both lists are alike. -/
import Derived.Test.YtodekiimkbejnaaGreatDoorRrW
namespace Go.Proofs.YtodekiimkbejnaaGreatDoor
open Go.RowKit Go.WideMaps Go.Maps Go.Sort

theorem LegsAt.drewN {w : World} {A : Option Addr} {n : Nat} {lg : Nat → LegV} (h : LegsAt w A n lg) (m : Nat) : LegsAt (w.drewN m) A n lg := h

set_option maxRecDepth 100000 in
set_option maxHeartbeats 4000000 in
theorem same_any (A1 A2 : Option Addr) (n c1 c2 : Nat) (lg lg' : Nat → LegV) (w : World) (h1 : LegsAt w A1 n lg) (h2 : LegsAt w A2 n lg') (he : ∀ i, i < n → lg i = lg' i) (hn : n ≤ 4398046511104) :
    Calls Tryz.prog 9 #[.slice A1 n c1, .slice A2 n c2] w fun e w' => e = .returned (.bool true) ∧ ∃ m, w' = w.drewN m := by
  have H1 := Lib.hid h1; have H2 := Lib.hid h2; have HE := Lib.hid he
  clear h1 h2 he
  go_enter Tryz.func9, Tryz.ntmps9
  go_wp2
  go_loopw [13, 5] (fun vi _ wr => ∃ k m : Nat, vi = .int .i64 k ∧ k ≤ n ∧ Hid (wr = w.drewN m)) (fun vi _ _ => n - (intOf vi).toNat)
  case atStart => exact ⟨0, 0, rfl, Nat.zero_le _, rfl⟩
  case round =>
    obtain ⟨k, m, rfl, hk, hh⟩ := hrel
    by_cases h : k < n
    · obtain ⟨g1, o1, rfl, hg1, hc1⟩ := H1.out (by omega)
      obtain ⟨g2, o2, rfl, hg2, hc2⟩ := H2.out (by omega)
      obtain ⟨a0, a1, _⟩ := hc1 k h
      obtain ⟨b0, b1, _⟩ := hc2 k h
      rw [← HE.out k h] at b0 b1
      have x1 : wr.cell? ⟨g1, o1 + k * 2, none⟩ = some (.string (lg k).a) := by rw [hh.out]; exact a0
      have x2 : wr.cell? ⟨g1, o1 + k * 2 + 1, none⟩ = some (.int .i64 (lg k).x) := by rw [hh.out]; exact a1
      have y1 : wr.cell? ⟨g2, o2 + k * 2, none⟩ = some (.string (lg k).a) := by rw [hh.out]; exact b0
      have y2 : wr.cell? ⟨g2, o2 + k * 2 + 1, none⟩ = some (.int .i64 (lg k).x) := by rw [hh.out]; exact b1
      have k0 : (0 : Int) ≤ (k : Int) := by omega
      have k1 : (k : Int) < (n : Int) := by omega
      have HW := hh
      clear hc1 hc2 a0 a1 b0 b1 hh
      generalize (lg k).a = t at *
      generalize (lg k).x = x at *
      go_wp2
      go_quiet (fail)
      go_wp2
      exact ⟨⟨k + 1, m + nq, by go_num, by omega, by rw [HW.out, World.drewN_drewN]; rfl⟩, by simp [intOf]; omega⟩
    · obtain rfl : k = n := by omega
      have HW := hh
      clear hh
      go_wp2
      go_ret
      exact ⟨rfl, m, HW.out⟩
end Go.Proofs.YtodekiimkbejnaaGreatDoor
