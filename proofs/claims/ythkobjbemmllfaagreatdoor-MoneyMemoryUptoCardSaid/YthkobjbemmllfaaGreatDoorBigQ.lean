/- math/big: division by one word of a number below 2^64, however it is laid: walked. -/
import Derived.Test.YthkobjbemmllfaaGreatDoorBigP
namespace Go.Proofs.YthkobjbemmllfaaGreatDoor
open Go.RowKit

set_option maxRecDepth 100000 in
theorem set_zero (base g c : Nat) (w : World) : Calls Tryz.prog 66 #[.slice none 0 0, .slice (some ⟨g, 0, none⟩) 0 c] w (SetPost base none 0 w) := by
  have kc := fun ty => run_copy_none (P := Tryz.prog) w 46 46 ty 66 none (some ⟨g, 0, none⟩) 0 0 0 c Tryz.underlying46 (by kernel_rfl) (by decide)
  go_enter Tryz.func66, Tryz.ntmps66
  go_wp2
  go_ret
  exact ⟨_, rfl, .inl ⟨rfl, rfl⟩, drewN_grown w 0 _, .inl rfl⟩

set_option maxRecDepth 100000 in
theorem divW_zero (base g c y : Nat) (hy : 0 < y) (w : World) : Calls Tryz.prog 116 #[.slice none 0 0, .slice (some ⟨g, 0, none⟩) 0 c, .int .u64 y] w (DivWPost base 0 0 w) := by
  have hn : Nv w base (.slice none 0 0) 0 := .inl ⟨rfl, rfl⟩
  have q1 : ((y : Int) == 0) = false := by simp; omega
  by_cases h1 : y = 1
  · subst h1
    have a1 := set_zero base g c w
    clear q1
    go_enter Tryz.func116, Tryz.ntmps116
    go_wp2_with fail
    refine a1.mono ?_
    clear a1
    rintro e w1 ⟨v', rfl, h1, h2, h3⟩
    have H1 := Lib.hid h1; have H2 := Lib.hid h2; have H3 := Lib.hid h3
    clear h1 h2 h3
    go_wp2
    go_ret2
    exact DivWPost.mk (v := v') rfl H1.out H2.out H3.out
  · have q2 : ((y : Int) == 1) = false := by simp; omega
    clear hy h1
    go_enter Tryz.func116, Tryz.ntmps116
    go_wp2
    go_ret2
    exact DivWPost.mk (v := .slice none 0 0) rfl hn (drewN_grown w 0 _) (.inl rfl)
theorem divW_nv (base X y : Nat) (xv : Value) (w : World) (hx : Nv w base xv X) (hX : X < 18446744073709551616) (hy : 0 < y) (hy1 : y < 18446744073709551616) (hb : base ≤ w.heap.size) :
    Calls Tryz.prog 116 #[.slice none 0 0, xv, .int .u64 y] w (DivWPost base (X / y) (X % y) w) := by
  rcases hx with ⟨rfl, rfl⟩ | ⟨g, n, c, f, rfl, hg, hB, hc, hc1, hn, ⟨rfl, rfl⟩ | ⟨rfl, rfl, h3, h4⟩ | ⟨rfl, rfl, h3, h4, h5⟩⟩
  · rw [Nat.zero_div, Nat.zero_mod]; exact divW_nil base y hy w
  · rw [Nat.zero_div, Nat.zero_mod]; exact divW_zero base g c y hy w
  · exact divW_one base g c _ y w ⟨⟨f, hB, rfl⟩, by omega, h3, h4⟩ hy hy1 hb
  · omega
end Go.Proofs.YthkobjbemmllfaaGreatDoor
