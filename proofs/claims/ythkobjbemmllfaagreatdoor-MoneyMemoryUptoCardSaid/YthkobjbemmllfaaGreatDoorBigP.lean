/- math/big: alias of nothing, DivMod of numbers not below nought, Bit 0: walked. -/
import Derived.Test.YthkobjbemmllfaaGreatDoorBigO
import Derived.Test.YthkobjbemmllfaaGreatDoorBigL
import Derived.Deep.QuietTactic
import Derived.BigQuiet
import Derived.Laws.Bits64b
namespace Go.Proofs.YthkobjbemmllfaaGreatDoor
open Go.RowKit

set_option maxRecDepth 100000 in
set_option maxHeartbeats 1000000 in
theorem alias_nil (yA : Option Addr) (yn yc : Nat) (w : World) : Calls Tryz.prog 39 #[.slice none 0 0, .slice yA yn yc] w fun e w' => e = .returned (.bool false) ∧ ∃ m, w' = w.drewN m := by
  go_enter Tryz.func39, Tryz.ntmps39
  go_wp2
  go_quiet (fail)
  go_wp2
  go_ret
  exact ⟨rfl, nq, rfl⟩

theorem QPost.from {base gz gr q r n : Nat} {w w' : World} {e : Ending} (h : QPost base gz gr q r (w.drewN n) e w') : QPost base gz gr q r w e w' := h

set_option maxRecDepth 100000 in
set_option maxHeartbeats 2000000 in
theorem divMod_any (base gz gr gx gy q r : Nat) (bz br : Bool) (xA yA : Option Addr) (xn xc yn yc : Nat) (w : World) (h : Four4 w gz gr gx gy bz br (.slice xA xn xc) (.slice yA yn yc))
    (a1 : ∀ n, Calls Tryz.prog 67 #[.slice none 0 0, .pointer none, .slice none 0 0, .slice xA xn xc, .slice yA yn yc] (w.drewN n) (DivPost base q r (w.drewN n))) :
    Calls Tryz.prog 20 #[.pointer (some ⟨gz, 0, none⟩), .pointer (some ⟨gx, 0, none⟩), .pointer (some ⟨gy, 0, none⟩), .pointer (some ⟨gr, 0, none⟩)] w (QPost base gz gr q r w) := by
  have ke : ∀ n, (binOp .eql 44 (.pointer (some ⟨gz, 0, none⟩)) (.pointer (some ⟨gy, 0, none⟩))).run Tryz.prog (w.drewN n) = .ok (.bool false) (w.drewN n) := fun n => ptr_other (w := w.drewN n) h.zy h.z h.y
  have c1 := (cell_at h.z).2.1
  have y1 := (cell_at h.y).2.1
  have HX := Lib.hid h
  have A1 := Lib.hid (show ∀ n, Calls Tryz.prog 41 #[.pointer (some ⟨gz, 0, none⟩), .pointer (some ⟨gx, 0, none⟩), .pointer (some ⟨gy, 0, none⟩), .pointer (some ⟨gr, 0, none⟩)] (w.drewN n) (QPost base gz gr q r (w.drewN n)) from
    fun n => quoRem_any base gz gr gx gy q r bz br xA yA xn xc yn yc (w.drewN n) ⟨h.z, h.r, h.x, h.y, h.zr, h.zx, h.zy, h.rx, h.ry⟩ (fun m => by simpa only [World.drewN_drewN] using a1 (n + m)))
  clear h a1
  go_enter Tryz.func20, Tryz.ntmps20
  go_wp2_with fail
  go_quiet ((go_at_call 39; exact Calls.quiet_of (alias_nil _ _ _ _)))
  go_wp2_with fail
  refine (A1.out _).mono ?_
  clear A1 ke c1 y1
  rintro e w2 ⟨v, u, rfl, h1, h2, h3⟩
  have r0 := (cell_at h2).1
  have H := Lib.hid (show QPost base gz gr q r w (.returned (.tuple #[.pointer (some ⟨gz, 0, none⟩), .pointer (some ⟨gr, 0, none⟩)])) w2 from ⟨v, u, rfl, h1, h2, h3⟩)
  clear h1 h2 h3
  go_wp2
  go_ret2
  exact H.out

theorem and_one (x : Nat) (hx : x < 18446744073709551616) : bits .and .u64 (x : Int) 1 = ((x % 2 : Nat) : Int) := by
  have h := bits_and_u64_nat x 1 hx (by decide)
  rw [Nat.and_one_is_mod] at h
  exact h
theorem ret_u64 {a b : Int} (h : a = b) : Ending.returned (.int .u64 a) = .returned (.int .u64 b) := by rw [h]
set_option maxRecDepth 100000 in
theorem bit0_any (base g M : Nat) (b : Bool) (v : Value) (w : World) (hg : w.heap[g]? = some (.cells #[.bool b, v] 48 (0, 0))) (hN : Nv w base v M) :
    Calls Tryz.prog 31 #[.pointer (some ⟨g, 0, none⟩), .int .i64 0] w fun e w' => e = .returned (.int .u64 ((M % 2 : Nat) : Int)) ∧ w = w' := by
  have c1 := (cell_at hg).2.1
  rcases hN with ⟨rfl, rfl⟩ | ⟨g2, n, c, f, rfl, hg2, hB, hc, hc1, hn, ⟨rfl, rfl⟩ | ⟨rfl, rfl, h3, h4⟩ | ⟨rfl, rfl, h3, h4, h5⟩⟩
  · clear hg
    go_enter Tryz.func31, Tryz.ntmps31
    go_wp2
    go_ret
    exact ⟨rfl, rfl⟩
  · clear hB hc hc1 hn hg
    go_enter Tryz.func31, Tryz.ntmps31
    go_wp2
    go_ret
    exact ⟨rfl, rfl⟩
  · have hx := (hB.cell (i := 0) (by omega)).1
    have HA := Lib.hid (and_one (f 0) h4)
    clear hB hc hc1 hn h3 h4 hg
    generalize f 0 = x at *
    go_enter Tryz.func31, Tryz.ntmps31
    go_wp2
    go_ret
    exact ⟨ret_u64 HA.out, rfl⟩
  · have hx := (hB.cell (i := 0) (by omega)).1
    have hM : (f 0 + 18446744073709551616 * f 1) % 2 = f 0 % 2 := by omega
    rw [hM]
    have HA := Lib.hid (and_one (f 0) h3)
    clear hB hc hc1 hn h3 h4 h5 hg hM
    generalize f 0 = x at *
    go_enter Tryz.func31, Tryz.ntmps31
    go_wp2
    go_ret
    exact ⟨ret_u64 HA.out, rfl⟩
end Go.Proofs.YthkobjbemmllfaaGreatDoor
