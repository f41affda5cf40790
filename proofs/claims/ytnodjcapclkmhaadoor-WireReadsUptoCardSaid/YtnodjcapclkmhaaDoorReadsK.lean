/- reads: what was written is read, and is the value: walked, a kind a theorem. -/
import Derived.Test.YtnodjcapclkmhaaDoorWrite
import Derived.Test.YtnodjcapclkmhaaDoorAgain2
namespace Go.Proofs.YtnodjcapclkmhaaDoor
open Go.RowKit

/-- What reads leaves: the value was told, the Reader stands at q. -/
def RdPost (B g : Nat) (s : ByteArray) (q : Nat) (w : World) (e : Ending) (w' : World) : Prop := e = .returned (.bool true) ∧ Rdr w' g s q ∧ Below B w w'
theorem rd_below {B g : Nat} {w w0 w1 : World} (hb : Below w.heap.size w w0) (h1 : Wrote w0 w1 g none none) (hB : B ≤ w.heap.size) (hg : B ≤ g) : Below B w w1 :=
  (hb.mono hB).trans (h1.below (Nat.le_trans hB hb.size) hg (fun k hk => by cases hk))

set_option maxRecDepth 100000 in
set_option maxHeartbeats 2000000 in
theorem reads_1 (Bf : Nat → Addr) (B g : Nat) (s : ByteArray) (p : Nat) (o : OpV) (w : World) (hE : EnvB B w Bf) (hg : B ≤ g) (hR : Rdr w g s p) (hp : p ≤ s.size) (hs : s.size ≤ 4398046511104) (ho : o.Ok) (hk : o.k = 1) (hP : Pre s p (uvL o.u)) :
    Calls Tryd.prog 28 #[.pointer (some ⟨g, 0, none⟩), o.val] w (RdPost B g s (p + (uvL o.u).length) w) := by
  obtain ⟨k, sec, u, i, n, m, t, A, ln, lc, ss⟩ := o
  obtain ⟨hu, hi⟩ := ho
  simp only at hk hP hu hi ⊢
  subst hk
  unfold OpV.val
  simp only
  have hB := hE.lt
  have hgl := hR.cells.2.2.2
  have hb := Below.new w (.cells #[.int .i64 1, .bool sec, .int .u64 u, .int .i64 i, .int .i64 n, .int .i64 m, .string t, .slice A ln lc] 30)
  have HB0 := Lib.hid hb
  have HX := Lib.hid (box_cells w (.int .i64 1) (.bool sec) (.int .u64 u) (.int .i64 i) (.int .i64 n) (.int .i64 m) (.string t) (.slice A ln lc))
  have a1 := rUint_any Bf B g s p _ (hE.below (hb.mono hB)) hg (hR.below hb) hp (by omega)
  have hr := uG_read hP hu
  rw [hr] at a1
  simp only [uV, uP] at a1
  clear hb hE hR hr
  go_enter Tryd.func28, Tryd.ntmps28
  go_wp2_with fail
  refine a1.mono ?_
  rintro e w1 ⟨rfl, h1, h2⟩
  obtain ⟨x2, x3, x6, x7⟩ := box_kept HX.out h2 (by omega) (by simp)
  have H1 := Lib.hid h1; have H2 := Lib.hid (rd_below HB0.out h2 hB hg); clear h1 h2 a1
  go_wp2
  go_ret
  exact ⟨rfl, H1.out, H2.out⟩

set_option maxRecDepth 100000 in
set_option maxHeartbeats 2000000 in
theorem reads_2 (Bf : Nat → Addr) (B g : Nat) (s : ByteArray) (p : Nat) (o : OpV) (w : World) (hE : EnvB B w Bf) (hg : B ≤ g) (hR : Rdr w g s p) (hp : p ≤ s.size) (hs : s.size ≤ 4398046511104) (ho : o.Ok) (hk : o.k = 2) (hP : Pre s p (uvL (zig o.i))) :
    Calls Tryd.prog 28 #[.pointer (some ⟨g, 0, none⟩), o.val] w (RdPost B g s (p + (uvL (zig o.i)).length) w) := by
  obtain ⟨k, sec, u, i, n, m, t, A, ln, lc, ss⟩ := o
  obtain ⟨hu, hi⟩ := ho
  simp only at hk hP hu hi ⊢
  subst hk
  unfold OpV.val
  simp only
  have hB := hE.lt
  have hgl := hR.cells.2.2.2
  have hb := Below.new w (.cells #[.int .i64 2, .bool sec, .int .u64 u, .int .i64 i, .int .i64 n, .int .i64 m, .string t, .slice A ln lc] 30)
  have HB0 := Lib.hid hb
  have HX := Lib.hid (box_cells w (.int .i64 2) (.bool sec) (.int .u64 u) (.int .i64 i) (.int .i64 n) (.int .i64 m) (.string t) (.slice A ln lc))
  have a1 := rInt_any Bf B g s p _ (hE.below (hb.mono hB)) hg (hR.below hb) hp (by omega)
  have hr := uG_read hP (zig_lt hi)
  rw [hr] at a1
  simp only [mapG, iV, uP, unz_zig] at a1
  clear hb hE hR hr
  go_enter Tryd.func28, Tryd.ntmps28
  go_wp2_with fail
  refine a1.mono ?_
  rintro e w1 ⟨rfl, h1, h2⟩
  obtain ⟨x2, x3, x6, x7⟩ := box_kept HX.out h2 (by omega) (by simp)
  have H1 := Lib.hid h1; have H2 := Lib.hid (rd_below HB0.out h2 hB hg); clear h1 h2 a1
  go_wp2
  go_ret
  exact ⟨rfl, H1.out, H2.out⟩

set_option maxRecDepth 100000 in
set_option maxHeartbeats 2000000 in
theorem reads_3 (Bf : Nat → Addr) (B g : Nat) (s : ByteArray) (p : Nat) (o : OpV) (w : World) (hE : EnvB B w Bf) (hg : B ≤ g) (hR : Rdr w g s p) (hp : p ≤ s.size) (hs : s.size ≤ 4398046511104) (ho : o.Ok) (hk : o.k = 3) (hP : Pre s p (lowL o.u 8)) :
    Calls Tryd.prog 28 #[.pointer (some ⟨g, 0, none⟩), o.val] w (RdPost B g s (p + (lowL o.u 8).length) w) := by
  obtain ⟨k, sec, u, i, n, m, t, A, ln, lc, ss⟩ := o
  obtain ⟨hu, hi⟩ := ho
  simp only at hk hP hu hi ⊢
  subst hk
  unfold OpV.val
  simp only
  have hB := hE.lt
  have hgl := hR.cells.2.2.2
  have hb := Below.new w (.cells #[.int .i64 3, .bool sec, .int .u64 u, .int .i64 i, .int .i64 n, .int .i64 m, .string t, .slice A ln lc] 30)
  have HB0 := Lib.hid hb
  have HX := Lib.hid (box_cells w (.int .i64 3) (.bool sec) (.int .u64 u) (.int .i64 i) (.int .i64 n) (.int .i64 m) (.string t) (.slice A ln lc))
  have a1 := rFixed_any Bf B g s p _ (hE.below (hb.mono hB)) hg (hR.below hb) hp (by omega)
  have hr := lowG_read hP hu
  rw [hr] at a1
  simp only [uV, uP] at a1
  clear hb hE hR hr
  rw [lowL_length]
  go_enter Tryd.func28, Tryd.ntmps28
  go_wp2_with fail
  refine a1.mono ?_
  rintro e w1 ⟨rfl, h1, h2⟩
  obtain ⟨x2, x3, x6, x7⟩ := box_kept HX.out h2 (by omega) (by simp)
  have H1 := Lib.hid h1; have H2 := Lib.hid (rd_below HB0.out h2 hB hg); clear h1 h2 a1
  go_wp2
  go_ret
  exact ⟨rfl, H1.out, H2.out⟩

set_option maxRecDepth 100000 in
set_option maxHeartbeats 2000000 in
theorem reads_4 (Bf : Nat → Addr) (B g : Nat) (s : ByteArray) (p : Nat) (o : OpV) (w : World) (hE : EnvB B w Bf) (hg : B ≤ g) (hR : Rdr w g s p) (hp : p ≤ s.size) (hs : s.size ≤ 4398046511104) (ho : o.Ok) (hk : o.k = 4) (hP : Pre s p (lowL o.u 1)) :
    Calls Tryd.prog 28 #[.pointer (some ⟨g, 0, none⟩), o.val] w (RdPost B g s (p + (lowL o.u 1).length) w) := by
  obtain ⟨k, sec, u, i, n, m, t, A, ln, lc, ss⟩ := o
  obtain ⟨hu, hi⟩ := ho
  simp only at hk hP hu hi ⊢
  subst hk
  unfold OpV.val
  simp only
  have hB := hE.lt
  have hgl := hR.cells.2.2.2
  have hb := Below.new w (.cells #[.int .i64 4, .bool sec, .int .u64 u, .int .i64 i, .int .i64 n, .int .i64 m, .string t, .slice A ln lc] 30)
  have HB0 := Lib.hid hb
  have HX := Lib.hid (box_cells w (.int .i64 4) (.bool sec) (.int .u64 u) (.int .i64 i) (.int .i64 n) (.int .i64 m) (.string t) (.slice A ln lc))
  have a1 := rByte_any Bf B g s p _ (hE.below (hb.mono hB)) hg (hR.below hb) hp (by omega)
  have hr := lowG_read (x := u % 256) (n := 1) (p := p) (s := s) (by have h := hP; unfold lowL lowL at h ⊢; rwa [Nat.mod_mod]) (by omega)
  rw [hr] at a1
  simp only [bV, uP] at a1
  clear hb hE hR hr
  rw [lowL_length]
  have e1 : ((u % 256 : Nat) : Int) = (u : Int) % 256 := by omega
  rw [e1] at a1
  clear e1
  go_enter Tryd.func28, Tryd.ntmps28
  go_wp2_with fail
  refine a1.mono ?_
  rintro e w1 ⟨rfl, h1, h2⟩
  obtain ⟨x2, x3, x6, x7⟩ := box_kept HX.out h2 (by omega) (by simp)
  have H1 := Lib.hid h1; have H2 := Lib.hid (rd_below HB0.out h2 hB hg); clear h1 h2 a1
  go_wp2
  go_ret
  exact ⟨rfl, H1.out, H2.out⟩

set_option maxRecDepth 100000 in
set_option maxHeartbeats 2000000 in
theorem reads_6 (Bf : Nat → Addr) (B g : Nat) (s : ByteArray) (p : Nat) (o : OpV) (w : World) (hE : EnvB B w Bf) (hg : B ≤ g) (hR : Rdr w g s p) (hp : p ≤ s.size) (hs : s.size ≤ 4398046511104) (ho : o.Ok) (hk : o.k = 6) (hP : Pre s p (textL o.s)) :
    Calls Tryd.prog 28 #[.pointer (some ⟨g, 0, none⟩), o.val] w (RdPost B g s (p + (textL o.s).length) w) := by
  obtain ⟨k, sec, u, i, n, m, t, A, ln, lc, ss⟩ := o
  obtain ⟨hu, hi⟩ := ho
  simp only at hk hP hu hi ⊢
  subst hk
  unfold OpV.val
  simp only
  have hB := hE.lt
  have hgl := hR.cells.2.2.2
  have hb := Below.new w (.cells #[.int .i64 6, .bool sec, .int .u64 u, .int .i64 i, .int .i64 n, .int .i64 m, .string t, .slice A ln lc] 30)
  have HB0 := Lib.hid hb
  have HX := Lib.hid (box_cells w (.int .i64 6) (.bool sec) (.int .u64 u) (.int .i64 i) (.int .i64 n) (.int .i64 m) (.string t) (.slice A ln lc))
  have a1 := rText_any Bf B g s p t.size _ (hE.below (hb.mono hB)) hg (hR.below hb) hp (by omega) (by have := hP.1; unfold textL at this; rw [List.length_append, nums_length] at this; omega)
  have hr := tG_read hP (Int.le_refl _) (by have := hP.1; unfold textL at this; rw [List.length_append, nums_length] at this; omega)
  rw [hr] at a1
  simp only [tV, uP] at a1
  clear hb hE hR hr
  go_enter Tryd.func28, Tryd.ntmps28
  go_wp2_with fail
  refine a1.mono ?_
  rintro e w1 ⟨rfl, h1, h2⟩
  obtain ⟨x2, x3, x6, x7⟩ := box_kept HX.out h2 (by omega) (by simp)
  have H1 := Lib.hid h1; have H2 := Lib.hid (rd_below HB0.out h2 hB hg); clear h1 h2 a1
  go_wp2
  go_ret
  exact ⟨rfl, H1.out, H2.out⟩
end Go.Proofs.YtnodjcapclkmhaaDoor
