/- math/big: nat.mul of numbers of at most one word, into new memory: walked. -/
import Derived.Test.YthkobjbemmllfaaGreatDoorBigJ
import Derived.Defers
namespace Go.Proofs.YthkobjbemmllfaaGreatDoor
open Go.RowKit

set_option maxRecDepth 100000 in
theorem mul_none (xn cx cy : Nat) (xA yA : Option Addr) (w : World) : Calls Tryz.prog 65 #[.slice none 0 0, .pointer none, .slice xA xn cx, .slice yA 0 cy] w fun e w' => e = .returned (.slice none 0 0) ∧ w' = w := by
  have q1 : ¬ (xn : Int) < 0 := by omega
  go_enter_defers Tryz.func65, Tryz.ntmps65
  go_wp2
  all_goals exact ⟨_, results_tmp rfl _ _ _, rfl, rfl⟩
set_option maxRecDepth 100000 in
theorem mul_none2 (cx cy : Nat) (xA yA : Option Addr) (w : World) : Calls Tryz.prog 65 #[.slice none 0 0, .pointer none, .slice xA 0 cx, .slice yA 1 cy] w fun e w' => e = .returned (.slice none 0 0) ∧ w' = w := by
  have a1 := mul_none 1 cy cx yA xA w
  go_enter_defers Tryz.func65, Tryz.ntmps65
  go_wp2_with fail
  refine a1.mono ?_
  rintro e w' ⟨rfl, rfl⟩
  go_wp2
  all_goals exact ⟨_, results_tmp rfl _ _ _, rfl, rfl⟩
set_option maxRecDepth 100000 in
theorem mul_pair (base h cx x k cy y : Nat) (w : World) (hx : One w h cx x) (hy : One w k cy y) (hb : base ≤ w.heap.size) :
    Calls Tryz.prog 65 #[.slice none 0 0, .pointer none, .slice (some ⟨h, 0, none⟩) 1 cx, .slice (some ⟨k, 0, none⟩) 1 cy] w (SetPost base none (x * y) w) := by
  have a1 := mulAddWW_one base h cx x y w hx hy.pos hy.lt hb
  have hyc := hy.cell.1
  have hcy := hy.cap
  clear hx hy
  go_enter_defers Tryz.func65, Tryz.ntmps65
  go_wp2_with fail
  refine a1.mono ?_
  clear a1
  rintro e w1 ⟨v', rfl, h1, h2, h3⟩
  have H1 := Lib.hid h1; have H2 := Lib.hid h2; have H3 := Lib.hid h3
  clear h1 h2 h3
  go_wp2
  exact ⟨_, results_tmp rfl _ _ _, SetPost.mk (v' := v') rfl H1.out H2.out H3.out⟩
theorem mulW (base X Y : Nat) (xv yv : Value) (w : World) (hx : W1 w xv X) (hy : W1 w yv Y) (hb : base ≤ w.heap.size) : Calls Tryz.prog 65 #[.slice none 0 0, .pointer none, xv, yv] w (SetPost base none (X * Y) w) := by
  have hn : Nv w base (.slice none 0 0) 0 := .inl ⟨rfl, rfl⟩
  rcases hx with ⟨rfl, rfl⟩ | ⟨h, rfl, ox⟩ <;> rcases hy with ⟨rfl, rfl⟩ | ⟨k, rfl, oy⟩
  · exact (mul_none 0 0 0 none none w).mono fun e w' ⟨h1, h2⟩ => ⟨_, h1, by subst h2; exact hn, by subst h2; exact drewN_grown _ 0 _, .inl rfl⟩
  · rw [Nat.zero_mul]; exact (mul_none2 0 1 none _ w).mono fun e w' ⟨h1, h2⟩ => ⟨_, h1, by subst h2; exact hn, by subst h2; exact drewN_grown _ 0 _, .inl rfl⟩
  · exact (mul_none 1 1 0 _ none w).mono fun e w' ⟨h1, h2⟩ => ⟨_, h1, by subst h2; exact hn, by subst h2; exact drewN_grown _ 0 _, .inl rfl⟩
  · exact mul_pair base h 1 X k 1 Y w ox oy hb
end Go.Proofs.YthkobjbemmllfaaGreatDoor
