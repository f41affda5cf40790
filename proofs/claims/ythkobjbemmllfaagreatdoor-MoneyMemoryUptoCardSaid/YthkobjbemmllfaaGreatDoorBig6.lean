/- math/big: nat.cmp, nat.sub: walked. -/
import Derived.Test.YthkobjbemmllfaaGreatDoorBig5
import Derived.BigQuiet
namespace Go.Proofs.YthkobjbemmllfaaGreatDoor
open Go.RowKit

def cmpI (M d : Nat) : Int := if M < d then -1 else if M = d then 0 else 1
set_option maxRecDepth 100000 in
set_option maxHeartbeats 1000000 in
theorem cmp_one (g c h cy d : Nat) (f : Nat → Nat) (w : World) (hB : Blk w g c f) (hc : 1 ≤ c) (hy : One w h cy d) :
    Calls Tryz.prog 49 #[.slice (some ⟨g, 0, none⟩) 1 c, .slice (some ⟨h, 0, none⟩) 1 cy] w fun e w' => e = .returned (.int .i64 (cmpI (f 0) d)) ∧ ∃ k, w' = w.drewN k := by
  have hx := (hB.cell (i := 0) (by omega)).1
  have hd := hy.cell.1
  clear hB hy hc
  generalize f 0 = x at *
  have HI := Lib.hid (show cmpI x d = _ from rfl)
  unfold cmpI at HI ⊢
  rcases Nat.lt_trichotomy x d with h1 | h1 | h1
  · rw [if_pos h1]
    have q1 : decide ((x : Int) < (d : Int)) = true := decide_eq_true (by omega)
    have q3 : decide (x < d) = true := decide_eq_true h1
    clear HI h1
    go_enter Tryz.func49, Tryz.ntmps49
    go_wp2_with fail
    go_loopw [7] (fun vi wr => vi = .int .i64 0 ∧ wr = w) (fun _ _ => (0 : Nat))
    case atStart => exact ⟨rfl, rfl⟩
    case round =>
      obtain ⟨rfl, hw⟩ := hrel
      subst wr
      go_wp2
      go_quiet (fail)
      go_wp2
      go_quiet (fail)
      go_wp2
      go_ret
      exact ⟨rfl, _, by rw [World.drewN_drewN]⟩
  · subst h1
    rw [if_neg (Nat.lt_irrefl _), if_pos rfl]
    have q1 : decide ((x : Int) < (x : Int)) = false := decide_eq_false (by omega)
    clear HI
    go_enter Tryz.func49, Tryz.ntmps49
    go_wp2_with fail
    go_loopw [7] (fun vi wr => vi = .int .i64 0 ∧ wr = w) (fun _ _ => (0 : Nat))
    case atStart => exact ⟨rfl, rfl⟩
    case round =>
      obtain ⟨rfl, hw⟩ := hrel
      subst wr
      go_wp2
      go_quiet (fail)
      go_wp2
      go_quiet (fail)
      go_wp2
      go_quiet (fail)
      go_wp2
      go_ret
      exact ⟨rfl, _, by rw [World.drewN_drewN, World.drewN_drewN]⟩
  · rw [if_neg (by omega), if_neg (by omega)]
    have q1 : decide ((x : Int) < (d : Int)) = false := decide_eq_false (by omega)
    have q3 : decide (x < d) = false := decide_eq_false (by omega)
    have q4 : decide (d < x) = true := decide_eq_true h1
    have q2 : decide ((d : Int) < (x : Int)) = true := decide_eq_true (by omega)
    clear HI h1
    go_enter Tryz.func49, Tryz.ntmps49
    go_wp2_with fail
    go_loopw [7] (fun vi wr => vi = .int .i64 0 ∧ wr = w) (fun _ _ => (0 : Nat))
    case atStart => exact ⟨rfl, rfl⟩
    case round =>
      obtain ⟨rfl, hw⟩ := hrel
      subst wr
      go_wp2
      go_quiet (fail)
      go_wp2
      go_quiet (fail)
      go_wp2
      go_quiet (fail)
      go_wp2
      go_ret
      exact ⟨rfl, _, by rw [World.drewN_drewN, World.drewN_drewN]⟩
set_option maxRecDepth 100000 in
theorem cmp_nil (A B : Option Addr) (c cy : Nat) (w : World) : Calls Tryz.prog 49 #[.slice A 0 c, .slice B 1 cy] w fun e w' => e = .returned (.int .i64 (-1)) ∧ w' = w := by
  go_enter Tryz.func49, Tryz.ntmps49
  go_wp2
  go_ret
  exact ⟨rfl, rfl⟩
set_option maxRecDepth 100000 in
theorem cmp_two (A B : Option Addr) (c cy : Nat) (w : World) : Calls Tryz.prog 49 #[.slice A 2 c, .slice B 1 cy] w fun e w' => e = .returned (.int .i64 1) ∧ w' = w := by
  go_enter Tryz.func49, Tryz.ntmps49
  go_wp2
  go_ret
  exact ⟨rfl, rfl⟩
theorem cmp_any (base h cy d M : Nat) (v : Value) (w : World) (hv : Nv w base v M) (hy : One w h cy d) : Calls Tryz.prog 49 #[v, .slice (some ⟨h, 0, none⟩) 1 cy] w fun e w' => e = .returned (.int .i64 (cmpI M d)) ∧ ∃ k, w' = w.drewN k := by
  have hp := hy.pos; have hl := hy.lt
  rcases hv with ⟨rfl, rfl⟩ | ⟨g, n, c, f, rfl, hg, hB, hc, hc1, hn, ⟨rfl, rfl⟩ | ⟨rfl, rfl, h3, h4⟩ | ⟨rfl, rfl, h3, h4, h5⟩⟩
  · refine (cmp_nil _ _ _ _ _).mono ?_
    rintro e w' ⟨rfl, rfl⟩
    exact ⟨by unfold cmpI; rw [if_pos hp], 0, rfl⟩
  · refine (cmp_nil _ _ _ _ _).mono ?_
    rintro e w' ⟨rfl, rfl⟩
    exact ⟨by unfold cmpI; rw [if_pos hp], 0, rfl⟩
  · exact cmp_one g c h cy d f w hB hn hy
  · refine (cmp_two _ _ _ _ _).mono ?_
    rintro e w' ⟨rfl, rfl⟩
    exact ⟨by unfold cmpI; rw [if_neg (by omega), if_neg (by omega)], 0, rfl⟩
end Go.Proofs.YthkobjbemmllfaaGreatDoor
