/- shorts: a text that ends within a value is too short, and the Reader stays: walked, a kind a theorem. -/
import Derived.Test.YtnodjcapclkmhaaDoorReadsK3
namespace Go.Proofs.YtnodjcapclkmhaaDoor
open Go.RowKit

set_option maxRecDepth 100000 in
set_option maxHeartbeats 2000000 in
theorem shorts_1 (Bf : Nat → Addr) (B g : Nat) (s : ByteArray) (p : Nat) (o : OpV) (w : World) (hE : EnvB B w Bf) (hg : B ≤ g) (hR : Rdr w g s p) (hp : p ≤ s.size) (hs : s.size ≤ 4398046511104) (ho : o.Ok) (hk : o.k = 1) (hP : Cut s p (uvL o.u)) :
    Calls Tryd.prog 30 #[.pointer (some ⟨g, 0, none⟩), o.val] w (RdPost B g s p w) := by
  obtain ⟨k, sec, u, i, n, m, t, A, ln, lc, ss⟩ := o
  obtain ⟨hu, hi⟩ := ho
  simp only at hk hP hu hi ⊢
  subst hk
  unfold OpV.val
  simp only
  have hB := hE.lt
  have hb := Below.new w (.cells #[.int .i64 1, .bool sec, .int .u64 u, .int .i64 i, .int .i64 n, .int .i64 m, .string t, .slice A ln lc] 30)
  have HB0 := Lib.hid hb
  have hE1 := hE.below (hb.mono hB)
  have HE1 := Lib.hid hE1
  have a1 := rUint_any Bf B g s p _ hE1 hg (hR.below hb) hp (by omega)
  have hr := uG_short hP hu
  rw [hr] at a1
  simp only [uV, uP] at a1
  have a3 := fun w hE => num_any Bf w hE 1 (by decide)
  rw [show ev Bf 1 = .iface 123 (.pointer (some (Bf 1))) from rfl] at a1 a3
  clear hb hE hR hr hE1
  go_enter Tryd.func30, Tryd.ntmps30
  go_wp2_with fail
  refine a1.mono ?_
  rintro e w1 ⟨rfl, h1, h2⟩
  have HE2 := Lib.hid (HE1.out.wrote h2 hg (fun k hk => by cases hk)).env
  have H1 := Lib.hid h1; have H2 := Lib.hid (rd_below HB0.out h2 hB hg); clear h1 h2 a1
  go_wp2_with fail
  refine (a3 _ HE2.out).mono ?_
  rintro e w2 ⟨rfl, hb3⟩
  have H3 := Lib.hid (H1.out.below hb3)
  have H4 := Lib.hid (H2.out.trans (hb3.mono (Nat.le_trans hB H2.out.size)))
  clear hb3
  go_wp2
  go_ret
  exact ⟨rfl, H3.out, H4.out⟩

set_option maxRecDepth 100000 in
set_option maxHeartbeats 2000000 in
theorem shorts_8 (Bf : Nat → Addr) (B g : Nat) (s : ByteArray) (p : Nat) (o : OpV) (w : World) (hE : EnvB B w Bf) (hg : B ≤ g) (hR : Rdr w g s p) (hp : p ≤ s.size) (hs : s.size ≤ 4398046511104) (ho : o.Ok) (hk : o.k = 8) (hP : Cut s p (uvL o.u)) :
    Calls Tryd.prog 30 #[.pointer (some ⟨g, 0, none⟩), o.val] w (RdPost B g s p w) := by
  obtain ⟨k, sec, u, i, n, m, t, A, ln, lc, ss⟩ := o
  obtain ⟨hu, hi⟩ := ho
  simp only at hk hP hu hi ⊢
  subst hk
  unfold OpV.val
  simp only
  have hB := hE.lt
  have hb := Below.new w (.cells #[.int .i64 8, .bool sec, .int .u64 u, .int .i64 i, .int .i64 n, .int .i64 m, .string t, .slice A ln lc] 30)
  have HB0 := Lib.hid hb
  have hE1 := hE.below (hb.mono hB)
  have HE1 := Lib.hid hE1
  have a1 := rUpto_any Bf B g s p 9223372036854775807 _ hE1 hg (hR.below hb) hp (by omega) (by omega)
  have hr := upG_short (m := 9223372036854775807) hP hu
  rw [hr] at a1
  simp only [nV, uP] at a1
  have a3 := fun w hE => num_any Bf w hE 1 (by decide)
  rw [show ev Bf 1 = .iface 123 (.pointer (some (Bf 1))) from rfl] at a1 a3
  clear hb hE hR hr hE1
  go_enter Tryd.func30, Tryd.ntmps30
  go_wp2_with fail
  refine a1.mono ?_
  rintro e w1 ⟨rfl, h1, h2⟩
  have HE2 := Lib.hid (HE1.out.wrote h2 hg (fun k hk => by cases hk)).env
  have H1 := Lib.hid h1; have H2 := Lib.hid (rd_below HB0.out h2 hB hg); clear h1 h2 a1
  go_wp2_with fail
  refine (a3 _ HE2.out).mono ?_
  rintro e w2 ⟨rfl, hb3⟩
  have H3 := Lib.hid (H1.out.below hb3)
  have H4 := Lib.hid (H2.out.trans (hb3.mono (Nat.le_trans hB H2.out.size)))
  clear hb3
  go_wp2
  go_ret
  exact ⟨rfl, H3.out, H4.out⟩

set_option maxRecDepth 100000 in
set_option maxHeartbeats 2000000 in
theorem shorts_2 (Bf : Nat → Addr) (B g : Nat) (s : ByteArray) (p : Nat) (o : OpV) (w : World) (hE : EnvB B w Bf) (hg : B ≤ g) (hR : Rdr w g s p) (hp : p ≤ s.size) (hs : s.size ≤ 4398046511104) (ho : o.Ok) (hk : o.k = 2) (hP : Cut s p (uvL (zig o.i))) :
    Calls Tryd.prog 30 #[.pointer (some ⟨g, 0, none⟩), o.val] w (RdPost B g s p w) := by
  obtain ⟨k, sec, u, i, n, m, t, A, ln, lc, ss⟩ := o
  obtain ⟨hu, hi⟩ := ho
  simp only at hk hP hu hi ⊢
  subst hk
  unfold OpV.val
  simp only
  have hB := hE.lt
  have hb := Below.new w (.cells #[.int .i64 2, .bool sec, .int .u64 u, .int .i64 i, .int .i64 n, .int .i64 m, .string t, .slice A ln lc] 30)
  have HB0 := Lib.hid hb
  have hE1 := hE.below (hb.mono hB)
  have HE1 := Lib.hid hE1
  have a1 := rInt_any Bf B g s p _ hE1 hg (hR.below hb) hp (by omega)
  have hr := uG_short hP (zig_lt hi)
  rw [hr] at a1
  simp only [mapG, iV, uP] at a1
  have a3 := fun w hE => num_any Bf w hE 1 (by decide)
  rw [show ev Bf 1 = .iface 123 (.pointer (some (Bf 1))) from rfl] at a1 a3
  clear hb hE hR hr hE1
  go_enter Tryd.func30, Tryd.ntmps30
  go_wp2_with fail
  refine a1.mono ?_
  rintro e w1 ⟨rfl, h1, h2⟩
  have HE2 := Lib.hid (HE1.out.wrote h2 hg (fun k hk => by cases hk)).env
  have H1 := Lib.hid h1; have H2 := Lib.hid (rd_below HB0.out h2 hB hg); clear h1 h2 a1
  go_wp2_with fail
  refine (a3 _ HE2.out).mono ?_
  rintro e w2 ⟨rfl, hb3⟩
  have H3 := Lib.hid (H1.out.below hb3)
  have H4 := Lib.hid (H2.out.trans (hb3.mono (Nat.le_trans hB H2.out.size)))
  clear hb3
  go_wp2
  go_ret
  exact ⟨rfl, H3.out, H4.out⟩

set_option maxRecDepth 100000 in
set_option maxHeartbeats 2000000 in
theorem shorts_3 (Bf : Nat → Addr) (B g : Nat) (s : ByteArray) (p : Nat) (o : OpV) (w : World) (hE : EnvB B w Bf) (hg : B ≤ g) (hR : Rdr w g s p) (hp : p ≤ s.size) (hs : s.size ≤ 4398046511104) (ho : o.Ok) (hk : o.k = 3) (hP : Cut s p (lowL o.u 8)) :
    Calls Tryd.prog 30 #[.pointer (some ⟨g, 0, none⟩), o.val] w (RdPost B g s p w) := by
  obtain ⟨k, sec, u, i, n, m, t, A, ln, lc, ss⟩ := o
  obtain ⟨hu, hi⟩ := ho
  simp only at hk hP hu hi ⊢
  subst hk
  unfold OpV.val
  simp only
  have hB := hE.lt
  have hb := Below.new w (.cells #[.int .i64 3, .bool sec, .int .u64 u, .int .i64 i, .int .i64 n, .int .i64 m, .string t, .slice A ln lc] 30)
  have HB0 := Lib.hid hb
  have hE1 := hE.below (hb.mono hB)
  have HE1 := Lib.hid hE1
  have a1 := rFixed_any Bf B g s p _ hE1 hg (hR.below hb) hp (by omega)
  have hr := lowG_short hP
  rw [hr] at a1
  simp only [uV, uP] at a1
  have a3 := fun w hE => num_any Bf w hE 1 (by decide)
  rw [show ev Bf 1 = .iface 123 (.pointer (some (Bf 1))) from rfl] at a1 a3
  clear hb hE hR hr hE1
  go_enter Tryd.func30, Tryd.ntmps30
  go_wp2_with fail
  refine a1.mono ?_
  rintro e w1 ⟨rfl, h1, h2⟩
  have HE2 := Lib.hid (HE1.out.wrote h2 hg (fun k hk => by cases hk)).env
  have H1 := Lib.hid h1; have H2 := Lib.hid (rd_below HB0.out h2 hB hg); clear h1 h2 a1
  go_wp2_with fail
  refine (a3 _ HE2.out).mono ?_
  rintro e w2 ⟨rfl, hb3⟩
  have H3 := Lib.hid (H1.out.below hb3)
  have H4 := Lib.hid (H2.out.trans (hb3.mono (Nat.le_trans hB H2.out.size)))
  clear hb3
  go_wp2
  go_ret
  exact ⟨rfl, H3.out, H4.out⟩

set_option maxRecDepth 100000 in
set_option maxHeartbeats 2000000 in
theorem shorts_4 (Bf : Nat → Addr) (B g : Nat) (s : ByteArray) (p : Nat) (o : OpV) (w : World) (hE : EnvB B w Bf) (hg : B ≤ g) (hR : Rdr w g s p) (hp : p ≤ s.size) (hs : s.size ≤ 4398046511104) (ho : o.Ok) (hk : o.k = 4) (hP : Cut s p (lowL o.u 1)) :
    Calls Tryd.prog 30 #[.pointer (some ⟨g, 0, none⟩), o.val] w (RdPost B g s p w) := by
  obtain ⟨k, sec, u, i, n, m, t, A, ln, lc, ss⟩ := o
  obtain ⟨hu, hi⟩ := ho
  simp only at hk hP hu hi ⊢
  subst hk
  unfold OpV.val
  simp only
  have hB := hE.lt
  have hb := Below.new w (.cells #[.int .i64 4, .bool sec, .int .u64 u, .int .i64 i, .int .i64 n, .int .i64 m, .string t, .slice A ln lc] 30)
  have HB0 := Lib.hid hb
  have hE1 := hE.below (hb.mono hB)
  have HE1 := Lib.hid hE1
  have a1 := rByte_any Bf B g s p _ hE1 hg (hR.below hb) hp (by omega)
  have hr := lowG_short hP
  rw [hr] at a1
  simp only [bV, uP] at a1
  have a3 := fun w hE => num_any Bf w hE 1 (by decide)
  rw [show ev Bf 1 = .iface 123 (.pointer (some (Bf 1))) from rfl] at a1 a3
  clear hb hE hR hr hE1
  go_enter Tryd.func30, Tryd.ntmps30
  go_wp2_with fail
  refine a1.mono ?_
  rintro e w1 ⟨rfl, h1, h2⟩
  have HE2 := Lib.hid (HE1.out.wrote h2 hg (fun k hk => by cases hk)).env
  have H1 := Lib.hid h1; have H2 := Lib.hid (rd_below HB0.out h2 hB hg); clear h1 h2 a1
  go_wp2_with fail
  refine (a3 _ HE2.out).mono ?_
  rintro e w2 ⟨rfl, hb3⟩
  have H3 := Lib.hid (H1.out.below hb3)
  have H4 := Lib.hid (H2.out.trans (hb3.mono (Nat.le_trans hB H2.out.size)))
  clear hb3
  go_wp2
  go_ret
  exact ⟨rfl, H3.out, H4.out⟩

set_option maxRecDepth 100000 in
set_option maxHeartbeats 2000000 in
theorem shorts_5 (Bf : Nat → Addr) (B g : Nat) (s : ByteArray) (p : Nat) (o : OpV) (w : World) (hE : EnvB B w Bf) (hg : B ≤ g) (hR : Rdr w g s p) (hp : p ≤ s.size) (hs : s.size ≤ 4398046511104) (ho : o.Ok) (hk : o.k = 5) (hP : Cut s p (lowL (fbits (o.u % 4294967296)) 4)) :
    Calls Tryd.prog 30 #[.pointer (some ⟨g, 0, none⟩), o.val] w (RdPost B g s p w) := by
  obtain ⟨k, sec, u, i, n, m, t, A, ln, lc, ss⟩ := o
  obtain ⟨hu, hi⟩ := ho
  simp only at hk hP hu hi ⊢
  subst hk
  unfold OpV.val
  simp only
  have hB := hE.lt
  have hb := Below.new w (.cells #[.int .i64 5, .bool sec, .int .u64 u, .int .i64 i, .int .i64 n, .int .i64 m, .string t, .slice A ln lc] 30)
  have HB0 := Lib.hid hb
  have hE1 := hE.below (hb.mono hB)
  have HE1 := Lib.hid hE1
  have a1 := rFloat_any Bf B g s p _ hE1 hg (hR.below hb) hp (by omega)
  have hr := fG_short hP
  rw [hr] at a1
  simp only [fV, uP] at a1
  have a3 := fun w hE => num_any Bf w hE 1 (by decide)
  rw [show ev Bf 1 = .iface 123 (.pointer (some (Bf 1))) from rfl] at a1 a3
  clear hb hE hR hr hE1
  go_enter Tryd.func30, Tryd.ntmps30
  go_wp2_with fail
  refine a1.mono ?_
  rintro e w1 ⟨rfl, h1, h2⟩
  have HE2 := Lib.hid (HE1.out.wrote h2 hg (fun k hk => by cases hk)).env
  have H1 := Lib.hid h1; have H2 := Lib.hid (rd_below HB0.out h2 hB hg); clear h1 h2 a1
  go_wp2_with fail
  refine (a3 _ HE2.out).mono ?_
  rintro e w2 ⟨rfl, hb3⟩
  have H3 := Lib.hid (H1.out.below hb3)
  have H4 := Lib.hid (H2.out.trans (hb3.mono (Nat.le_trans hB H2.out.size)))
  clear hb3
  go_wp2
  go_ret
  exact ⟨rfl, H3.out, H4.out⟩

set_option maxRecDepth 100000 in
set_option maxHeartbeats 2000000 in
theorem shorts_6 (Bf : Nat → Addr) (B g : Nat) (s : ByteArray) (p : Nat) (o : OpV) (w : World) (hE : EnvB B w Bf) (hg : B ≤ g) (hR : Rdr w g s p) (hp : p ≤ s.size) (hs : s.size ≤ 4398046511104) (ho : o.Ok) (hk : o.k = 6) (hP : Cut s p (textL o.s)) (hz : o.s.size ≤ 4398046511104) :
    Calls Tryd.prog 30 #[.pointer (some ⟨g, 0, none⟩), o.val] w (RdPost B g s p w) := by
  obtain ⟨k, sec, u, i, n, m, t, A, ln, lc, ss⟩ := o
  obtain ⟨hu, hi⟩ := ho
  simp only at hk hP hu hi hz ⊢
  subst hk
  unfold OpV.val
  simp only
  have hB := hE.lt
  have hb := Below.new w (.cells #[.int .i64 6, .bool sec, .int .u64 u, .int .i64 i, .int .i64 n, .int .i64 m, .string t, .slice A ln lc] 30)
  have HB0 := Lib.hid hb
  have hE1 := hE.below (hb.mono hB)
  have HE1 := Lib.hid hE1
  have a1 := rText_any Bf B g s p t.size _ hE1 hg (hR.below hb) hp (by omega) (by omega)
  have hr := tG_short hP (Int.le_refl _) (by omega)
  rw [hr] at a1
  simp only [tV, uP] at a1
  have a3 := fun w hE => num_any Bf w hE 1 (by decide)
  rw [show ev Bf 1 = .iface 123 (.pointer (some (Bf 1))) from rfl] at a1 a3
  clear hb hE hR hr hE1
  go_enter Tryd.func30, Tryd.ntmps30
  go_wp2_with fail
  refine a1.mono ?_
  rintro e w1 ⟨rfl, h1, h2⟩
  have HE2 := Lib.hid (HE1.out.wrote h2 hg (fun k hk => by cases hk)).env
  have H1 := Lib.hid h1; have H2 := Lib.hid (rd_below HB0.out h2 hB hg); clear h1 h2 a1
  go_wp2_with fail
  refine (a3 _ HE2.out).mono ?_
  rintro e w2 ⟨rfl, hb3⟩
  have H3 := Lib.hid (H1.out.below hb3)
  have H4 := Lib.hid (H2.out.trans (hb3.mono (Nat.le_trans hB H2.out.size)))
  clear hb3
  go_wp2
  go_ret
  exact ⟨rfl, H3.out, H4.out⟩

theorem XRes.short {B : Nat → Addr} {g p k : Nat} {s : ByteArray} {w w' : World} {e : Ending} (h : XRes B g s p (.error k) w e w') : e = .returned (.tuple #[.slice none 0 0, ev B k]) ∧ Rdr w' g s p ∧ Wrote w w' g none none := by
  rcases h with ⟨k', hk, _, he, hr, hw⟩ | ⟨L, q', v, hk, _⟩
  · obtain rfl := Except.error.inj hk
    exact ⟨he, hr, hw⟩
  · cases hk
set_option maxRecDepth 100000 in
set_option maxHeartbeats 4000000 in
theorem shorts_7 (Bf : Nat → Addr) (B g : Nat) (s : ByteArray) (p : Nat) (o : OpV) (w : World) (hE : EnvB B w Bf) (hg : B ≤ g) (hR : Rdr w g s p) (hp : p ≤ s.size) (hs : s.size ≤ 4398046511104) (hk : o.k = 7) (hP : Cut s p (textsL o.ss o.ln))
    (hA : Tv w o.A o.ln o.lc o.ss) (hAb : 0 < o.ln → ∀ a, o.A = some a → a.block < B) (hln : o.ln ≤ 4000000000) (hz : ∀ i, i < o.ln → (o.ss i).size ≤ 4398046511104) :
    Calls Tryd.prog 30 #[.pointer (some ⟨g, 0, none⟩), o.val] w (RdPost B g s p w) := by
  obtain ⟨k, sec, u, i, n, m, t, A, ln, lc, ss⟩ := o
  simp only at hk hP hA hAb hln hz ⊢
  subst hk
  unfold OpV.val
  simp only
  have hB := hE.lt
  have hb := Below.new w (.cells #[.int .i64 7, .bool sec, .int .u64 u, .int .i64 i, .int .i64 n, .int .i64 m, .string t, .slice A ln lc] 30)
  have HB0 := Lib.hid hb
  have hE1 := hE.below (hb.mono hB)
  have HE1 := Lib.hid hE1
  have hlg : lng ss ln ≤ 4398046511104 := lng_le ln hz
  have hP2 : Cut s p (uvL (ml ss ln).length ++ tsLL (ml ss ln)) := by rw [ml_length, tsLL_ml]; exact hP
  have hxs : xsG s p ln (lng ss ln) = .error 1 := xsG_short hP2 (by rw [ml_length]; exact Int.le_refl _) (by rw [ml_length]; omega) (fun t ht => by
      obtain ⟨i, hi, rfl⟩ := mem_ml ht
      have := lng_at ln i hi (ss := ss)
      have := hz i hi
      omega)
  have hSl := hA.2
  have hS0 : Sl (w.alloc (.cells #[.int .i64 7, .bool sec, .int .u64 u, .int .i64 i, .int .i64 n, .int .i64 m, .string t, .slice A ln lc] 30)) A ln (fun i => .string (ss i)) := hSl.below (fun h a e => Nat.lt_of_lt_of_le (hAb h a e) hB) hb
  have a0 := longest_any A ln lc ss (w.alloc (.cells #[.int .i64 7, .bool sec, .int .u64 u, .int .i64 i, .int .i64 n, .int .i64 m, .string t, .slice A ln lc] 30)).drew (by omega) (fun i hi => by have := hz i hi; omega) hS0
  have a1 := rTexts_any Bf B g s p ln (lng ss ln) (w.alloc (.cells #[.int .i64 7, .bool sec, .int .u64 u, .int .i64 i, .int .i64 n, .int .i64 m, .string t, .slice A ln lc] 30)).drew (hE.below ((hb.mono hB).trans (below_drewN (Below.refl _ _) 1))) hg ((hR.below hb).drewN 1) hp hs (by omega) (by omega)
  rw [hxs] at a1
  replace a1 := a1.mono fun _ _ h => h.short
  have a3 := fun w hE => num_any Bf w hE 1 (by decide)
  rw [show ev Bf 1 = .iface 123 (.pointer (some (Bf 1))) from rfl] at a1 a3
  generalize lng ss ln = l at *
  clear hb hE hR hP hP2 hxs hSl hS0 hA hAb hz hE1
  go_enter Tryd.func30, Tryd.ntmps30
  go_wp2_with fail
  go_region_with ((first | (go_at_call 19; refine a0.mono ?_; rintro e w' ⟨rfl, rfl⟩) | (go_at_call 18; refine a1.mono ?_; rintro e w1 ⟨rfl, h1, h2⟩)))
  all_goals
    replace h2 := Wrote.undrew h2
    have HE2 := Lib.hid (HE1.out.wrote h2 hg (fun k hk => by cases hk)).env
    have H1 := Lib.hid h1; have H2 := Lib.hid (rd_below HB0.out h2 hB hg); clear h1 h2 a1 a0
    go_wp2_with fail
    refine (a3 _ HE2.out).mono ?_
    rintro e w2 ⟨rfl, hb3⟩
    have H3 := Lib.hid (H1.out.below hb3)
    have H4 := Lib.hid (H2.out.trans (hb3.mono (Nat.le_trans hB H2.out.size)))
    clear hb3
    go_wp2
    go_ret
    exact ⟨rfl, H3.out, H4.out⟩

theorem shorts_any (Bf : Nat → Addr) (B g : Nat) (s : ByteArray) (p : Nat) (o : OpV) (w : World) (hE : EnvB B w Bf) (hg : B ≤ g) (hR : Rdr w g s p) (hp : p ≤ s.size) (hs : s.size ≤ 4398046511104) (ho : o.Ok) (hk : okK o = true) (hP : Cut s p (putL o))
    (hA : Tv w o.A o.ln o.lc o.ss) (hAb : 0 < o.ln → ∀ a, o.A = some a → a.block < B) (hln : o.ln ≤ 4000000000) (hz : ∀ i, i < o.ln → (o.ss i).size ≤ 4398046511104) (hz2 : o.s.size ≤ 4398046511104) :
    Calls Tryd.prog 30 #[.pointer (some ⟨g, 0, none⟩), o.val] w (RdPost B g s p w) := by
  have hk8 : 1 ≤ o.k ∧ o.k ≤ 8 := by unfold okK at hk; simpa using hk
  rcases (show o.k = 1 ∨ o.k = 2 ∨ o.k = 3 ∨ o.k = 4 ∨ o.k = 5 ∨ o.k = 6 ∨ o.k = 7 ∨ o.k = 8 by omega) with hk | hk | hk | hk | hk | hk | hk | hk
  · have e : putL o = uvL o.u := by unfold putL; simp [hk]
    rw [e] at hP; exact shorts_1 Bf B g s p o w hE hg hR hp hs ho hk hP
  · have e : putL o = uvL (zig o.i) := by unfold putL; simp [hk]
    rw [e] at hP; exact shorts_2 Bf B g s p o w hE hg hR hp hs ho hk hP
  · have e : putL o = lowL o.u 8 := by unfold putL; simp [hk]
    rw [e] at hP; exact shorts_3 Bf B g s p o w hE hg hR hp hs ho hk hP
  · have e : putL o = lowL o.u 1 := by unfold putL; simp [hk]
    rw [e] at hP; exact shorts_4 Bf B g s p o w hE hg hR hp hs ho hk hP
  · have e : putL o = lowL (fbits (o.u % 4294967296)) 4 := by unfold putL; simp [hk]
    rw [e] at hP; exact shorts_5 Bf B g s p o w hE hg hR hp hs ho hk hP
  · have e : putL o = textL o.s := by unfold putL; simp [hk]
    rw [e] at hP; exact shorts_6 Bf B g s p o w hE hg hR hp hs ho hk hP hz2
  · have e : putL o = textsL o.ss o.ln := by unfold putL; simp [hk]
    rw [e] at hP; exact shorts_7 Bf B g s p o w hE hg hR hp hs hk hP hA hAb hln hz
  · have e : putL o = uvL o.u := by unfold putL; simp [hk]
    rw [e] at hP; exact shorts_8 Bf B g s p o w hE hg hR hp hs ho hk hP
end Go.Proofs.YtnodjcapclkmhaaDoor
