/- again: a value read and written: walked, a kind a theorem. -/
import Derived.Test.YtnodjcapclkmhaaDoorForm
namespace Go.Proofs.YtnodjcapclkmhaaDoor
open Go.RowKit

/-- What again leaves: took tells whether the value was read; what was read is written, byte for byte. -/
def AgPost (B g h : Nat) (s : ByteArray) (p : Nat) (w : World) (e : Ending) (w' : World) : Prop :=
  ∃ (took : Bool) (q : Nat), e = .returned (.bool took) ∧ p ≤ q ∧ q ≤ s.size ∧ (took = false → q = p) ∧ Rdr w' g s q ∧ (took = true → ∃ r, Wri w' B h (rng s p (q - p)) r) ∧ Below B w w'
theorem AgPost.bad {B g h p : Nat} {s : ByteArray} {w w' : World} {e : Ending} (he : e = .returned (.bool false)) (hp : p ≤ s.size) (hr : Rdr w' g s p) (hb : Below B w w') : AgPost B g h s p w e w' :=
  ⟨false, p, he, Nat.le_refl _, hp, fun _ => rfl, hr, (fun h => by cases h), hb⟩
theorem AgPost.good {B g h p q : Nat} {s : ByteArray} {w w' : World} {e : Ending} {r : Option Nat} {xs : List Int} (he : e = .returned (.bool true)) (hp : p ≤ q) (hq : q ≤ s.size) (hr : Rdr w' g s q) (hw : Wri w' B h xs r) (hx : xs = rng s p (q - p)) (hb : Below B w w') : AgPost B g h s p w e w' :=
  ⟨true, q, he, hp, hq, (fun h => by cases h), hr, fun _ => ⟨r, by rw [← hx]; exact hw⟩, hb⟩
theorem none_apart {g h : Nat} (hn : g ≠ h) : Apart g none h none := ⟨hn, by simp, by simp, .inl rfl⟩
theorem Rdr.wrote {w w' : World} {g h p : Nat} {s : ByteArray} {r r' : Option Nat} (hR : Rdr w g s p) (hw : Wrote w w' h r r') (hn : g ≠ h) (hr : r ≠ some g) : Rdr w' g s p := (hw.block g hR.cells.2.2.2 hn (fun e => hr e.symm)).trans hR
theorem below_two {B g h : Nat} {w w0 w1 w2 : World} {r : Option Nat} (hb : Below w.heap.size w w0) (h1 : Wrote w0 w1 g none none) (h2 : Wrote w1 w2 h none r) (hB : B ≤ w.heap.size) (hg : B ≤ g) (hh : B ≤ h) : Below B w w2 :=
  ((hb.mono hB).trans (h1.below (Nat.le_trans hB hb.size) hg (fun k hk => by cases hk))).trans (h2.below (Nat.le_trans hB (Nat.le_trans hb.size h1.size)) hh (fun k hk => by cases hk))
def OpV.In (o : OpV) : Prop := (-9223372036854775808 ≤ o.n ∧ o.n ≤ 9223372036854775807) ∧ (-9223372036854775808 ≤ o.m ∧ o.m ≤ 9223372036854775807)

set_option maxRecDepth 100000 in
set_option maxHeartbeats 2000000 in
theorem again_1 (Bf : Nat → Addr) (B g h : Nat) (s : ByteArray) (p : Nat) (o : OpV) (w : World) (hE : EnvB B w Bf) (hg : B ≤ g) (hR : Rdr w g s p) (hW : Wri w B h [] none) (hgh : g ≠ h) (hp : p ≤ s.size) (hs : s.size ≤ 4398046511104) (ho : o.In) (hk : o.k = 1) :
    Calls Tryd.prog 29 #[.pointer (some ⟨g, 0, none⟩), .pointer (some ⟨h, 0, none⟩), o.val] w (AgPost B g h s p w) := by
  obtain ⟨k, sec, u, i, n, m, t, A, ln, lc, ss⟩ := o
  obtain ⟨hn, hm⟩ := ho
  simp only at hk hn hm
  subst hk
  unfold OpV.val
  simp only
  have hB := hE.lt
  have hh := hW.lt.1
  have hb := Below.new w (.cells #[.int .i64 1, .bool sec, .int .u64 u, .int .i64 i, .int .i64 n, .int .i64 m, .string t, .slice A ln lc] 30)
  have W0 := Lib.hid (hW.below hb)
  have HB0 := Lib.hid hb
  have a1 := rUint_any Bf B g s p _ (hE.below (hb.mono hB)) hg (hR.below hb) hp (by omega)
  clear hb hW hE hR
  cases hu : uG s p 0 0 with
  | error e =>
    rw [hu] at a1
    simp only [uV, uP] at a1
    obtain ⟨c, hc⟩ : ∃ c, ev Bf e = .iface 123 (.pointer (some c)) := by rcases uG_err hu with rfl | rfl <;> exact ⟨_, rfl⟩
    rw [hc] at a1
    clear hc hu
    go_enter Tryd.func29, Tryd.ntmps29
    go_wp2_with fail
    refine a1.mono ?_
    rintro e w1 ⟨rfl, h1, h2⟩
    have hWr := (W0.out.other h2 (none_apart hgh)).1
    have H1 := Lib.hid h1; have H2 := Lib.hid h2; clear h1 h2 a1
    go_wp2_with fail
    refine (uint_any B h [] none 0 w1 hWr (by decide) (by rw [uvL_last (by decide)]; decide)).mono ?_
    rintro e w2 ⟨rfl, r2, h3, h4⟩
    have H5 := Lib.hid (H1.out.wrote h4 hgh (by simp))
    have H6 := Lib.hid (below_two HB0.out H2.out h4 hB hg hh)
    clear h3 h4 hWr
    go_wp2
    go_ret
    exact AgPost.bad rfl hp H5.out H6.out
  | ok y =>
    obtain ⟨x, q⟩ := y
    rw [hu] at a1
    simp only [uV, uP] at a1
    have HBK := Lib.hid (uG_back hu)
    obtain ⟨hx, hpq, hq⟩ := uG_ok hu
    have hl10 := uv_len10 hx
    clear hu
    go_enter Tryd.func29, Tryd.ntmps29
    go_wp2_with fail
    refine a1.mono ?_
    rintro e w1 ⟨rfl, h1, h2⟩
    have hWr := (W0.out.other h2 (none_apart hgh)).1
    have H1 := Lib.hid h1; have H2 := Lib.hid h2; clear h1 h2 a1
    go_wp2_with fail
    refine (uint_any B h [] none x w1 hWr hx (by simp; omega)).mono ?_
    rintro e w2 ⟨rfl, r2, h3, h4⟩
    have H3 := Lib.hid h3
    have H5 := Lib.hid (H1.out.wrote h4 hgh (by simp))
    have H6 := Lib.hid (below_two HB0.out H2.out h4 hB hg hh)
    clear h3 h4 hWr
    go_wp2
    go_ret
    exact AgPost.good rfl (by omega) hq H5.out H3.out (HBK.out) H6.out

set_option maxRecDepth 100000 in
set_option maxHeartbeats 2000000 in
theorem again_8 (Bf : Nat → Addr) (B g h : Nat) (s : ByteArray) (p : Nat) (o : OpV) (w : World) (hE : EnvB B w Bf) (hg : B ≤ g) (hR : Rdr w g s p) (hW : Wri w B h [] none) (hgh : g ≠ h) (hp : p ≤ s.size) (hs : s.size ≤ 4398046511104) (ho : o.In) (hk : o.k = 8) :
    Calls Tryd.prog 29 #[.pointer (some ⟨g, 0, none⟩), .pointer (some ⟨h, 0, none⟩), o.val] w (AgPost B g h s p w) := by
  obtain ⟨k, sec, u, i, n, m, t, A, ln, lc, ss⟩ := o
  obtain ⟨hn, hm⟩ := ho
  simp only at hk hn hm
  subst hk
  unfold OpV.val
  simp only
  have hB := hE.lt
  have hh := hW.lt.1
  have hb := Below.new w (.cells #[.int .i64 8, .bool sec, .int .u64 u, .int .i64 i, .int .i64 n, .int .i64 m, .string t, .slice A ln lc] 30)
  have W0 := Lib.hid (hW.below hb)
  have HB0 := Lib.hid hb
  have a1 := rUpto_any Bf B g s p n _ (hE.below (hb.mono hB)) hg (hR.below hb) hp (by omega) hn
  clear hb hW hE hR
  cases hu : upG s p n with
  | error e =>
    rw [hu] at a1
    simp only [nV, uP] at a1
    obtain ⟨c, hc⟩ : ∃ c, ev Bf e = .iface 123 (.pointer (some c)) := by rcases upG_err hu with rfl | rfl | rfl <;> exact ⟨_, rfl⟩
    rw [hc] at a1
    clear hc hu
    go_enter Tryd.func29, Tryd.ntmps29
    go_wp2_with fail
    refine a1.mono ?_
    rintro e w1 ⟨rfl, h1, h2⟩
    have hWr := (W0.out.other h2 (none_apart hgh)).1
    have H1 := Lib.hid h1; have H2 := Lib.hid h2; clear h1 h2 a1
    go_wp2_with fail
    refine (uint_any B h [] none 0 w1 hWr (by decide) (by rw [uvL_last (by decide)]; decide)).mono ?_
    rintro e w2 ⟨rfl, r2, h3, h4⟩
    have H5 := Lib.hid (H1.out.wrote h4 hgh (by simp))
    have H6 := Lib.hid (below_two HB0.out H2.out h4 hB hg hh)
    clear h3 h4 hWr
    go_wp2
    go_ret
    exact AgPost.bad rfl hp H5.out H6.out
  | ok y =>
    obtain ⟨x, q⟩ := y
    rw [hu] at a1
    simp only [nV, uP] at a1
    obtain ⟨hxn, hpq, hq, hug⟩ := upG_ok hu
    have HBK := Lib.hid (uG_back hug)
    have hx : x < 18446744073709551616 := by omega
    have hl10 := uv_len10 hx
    have kw : IntKind.u64.wrap (x : Int) = x := by rw [IntKind.wrap_u64]; omega
    clear hug
    clear hu
    go_enter Tryd.func29, Tryd.ntmps29
    go_wp2_with fail
    refine a1.mono ?_
    rintro e w1 ⟨rfl, h1, h2⟩
    have hWr := (W0.out.other h2 (none_apart hgh)).1
    have H1 := Lib.hid h1; have H2 := Lib.hid h2; clear h1 h2 a1
    go_wp2_with fail
    refine (uint_any B h [] none x w1 hWr hx (by simp; omega)).mono ?_
    rintro e w2 ⟨rfl, r2, h3, h4⟩
    have H3 := Lib.hid h3
    have H5 := Lib.hid (H1.out.wrote h4 hgh (by simp))
    have H6 := Lib.hid (below_two HB0.out H2.out h4 hB hg hh)
    clear h3 h4 hWr
    go_wp2
    go_ret
    exact AgPost.good rfl (by omega) hq H5.out H3.out (HBK.out) H6.out

set_option maxRecDepth 100000 in
set_option maxHeartbeats 2000000 in
theorem again_2 (Bf : Nat → Addr) (B g h : Nat) (s : ByteArray) (p : Nat) (o : OpV) (w : World) (hE : EnvB B w Bf) (hg : B ≤ g) (hR : Rdr w g s p) (hW : Wri w B h [] none) (hgh : g ≠ h) (hp : p ≤ s.size) (hs : s.size ≤ 4398046511104) (ho : o.In) (hk : o.k = 2) :
    Calls Tryd.prog 29 #[.pointer (some ⟨g, 0, none⟩), .pointer (some ⟨h, 0, none⟩), o.val] w (AgPost B g h s p w) := by
  obtain ⟨k, sec, u, i, n, m, t, A, ln, lc, ss⟩ := o
  obtain ⟨hn, hm⟩ := ho
  simp only at hk hn hm
  subst hk
  unfold OpV.val
  simp only
  have hB := hE.lt
  have hh := hW.lt.1
  have hb := Below.new w (.cells #[.int .i64 2, .bool sec, .int .u64 u, .int .i64 i, .int .i64 n, .int .i64 m, .string t, .slice A ln lc] 30)
  have W0 := Lib.hid (hW.below hb)
  have HB0 := Lib.hid hb
  have a1 := rInt_any Bf B g s p _ (hE.below (hb.mono hB)) hg (hR.below hb) hp (by omega)
  clear hb hW hE hR
  cases hu : uG s p 0 0 with
  | error e =>
    rw [hu] at a1
    simp only [mapG, iV, uP] at a1
    obtain ⟨c, hc⟩ : ∃ c, ev Bf e = .iface 123 (.pointer (some c)) := by rcases uG_err hu with rfl | rfl <;> exact ⟨_, rfl⟩
    rw [hc] at a1
    clear hc hu
    go_enter Tryd.func29, Tryd.ntmps29
    go_wp2_with fail
    refine a1.mono ?_
    rintro e w1 ⟨rfl, h1, h2⟩
    have hWr := (W0.out.other h2 (none_apart hgh)).1
    have H1 := Lib.hid h1; have H2 := Lib.hid h2; clear h1 h2 a1
    go_wp2_with fail
    refine (int_any B h [] none 0 w1 hWr (by decide) (by show (uvL 0).length ≤ _; rw [uvL_last (by decide)]; decide)).mono ?_
    rintro e w2 ⟨rfl, r2, h3, h4⟩
    have H5 := Lib.hid (H1.out.wrote h4 hgh (by simp))
    have H6 := Lib.hid (below_two HB0.out H2.out h4 hB hg hh)
    clear h3 h4 hWr
    go_wp2
    go_ret
    exact AgPost.bad rfl hp H5.out H6.out
  | ok y =>
    obtain ⟨x, q⟩ := y
    rw [hu] at a1
    simp only [mapG, iV, uP] at a1
    have HBK := Lib.hid (uG_back hu)
    obtain ⟨hx, hpq, hq⟩ := uG_ok hu
    have hl10 := uv_len10 hx
    have hur := unz_range hx
    have HZ := Lib.hid (zig_unz x)
    have hlz : ([] ++ uvL (zig (unz x))).length ≤ 140737488355328 := by rw [HZ.out]; simp; omega
    clear hu
    go_enter Tryd.func29, Tryd.ntmps29
    go_wp2_with fail
    refine a1.mono ?_
    rintro e w1 ⟨rfl, h1, h2⟩
    have hWr := (W0.out.other h2 (none_apart hgh)).1
    have H1 := Lib.hid h1; have H2 := Lib.hid h2; clear h1 h2 a1
    go_wp2_with fail
    refine (int_any B h [] none (unz x) w1 hWr hur hlz).mono ?_
    rintro e w2 ⟨rfl, r2, h3, h4⟩
    have H3 := Lib.hid h3
    have H5 := Lib.hid (H1.out.wrote h4 hgh (by simp))
    have H6 := Lib.hid (below_two HB0.out H2.out h4 hB hg hh)
    clear h3 h4 hWr
    go_wp2
    go_ret
    exact AgPost.good rfl (by omega) hq H5.out H3.out (by rw [List.nil_append, HZ.out]; exact HBK.out) H6.out

set_option maxRecDepth 100000 in
set_option maxHeartbeats 2000000 in
theorem again_3 (Bf : Nat → Addr) (B g h : Nat) (s : ByteArray) (p : Nat) (o : OpV) (w : World) (hE : EnvB B w Bf) (hg : B ≤ g) (hR : Rdr w g s p) (hW : Wri w B h [] none) (hgh : g ≠ h) (hp : p ≤ s.size) (hs : s.size ≤ 4398046511104) (ho : o.In) (hk : o.k = 3) :
    Calls Tryd.prog 29 #[.pointer (some ⟨g, 0, none⟩), .pointer (some ⟨h, 0, none⟩), o.val] w (AgPost B g h s p w) := by
  obtain ⟨k, sec, u, i, n, m, t, A, ln, lc, ss⟩ := o
  obtain ⟨hn, hm⟩ := ho
  simp only at hk hn hm
  subst hk
  unfold OpV.val
  simp only
  have hB := hE.lt
  have hh := hW.lt.1
  have hb := Below.new w (.cells #[.int .i64 3, .bool sec, .int .u64 u, .int .i64 i, .int .i64 n, .int .i64 m, .string t, .slice A ln lc] 30)
  have W0 := Lib.hid (hW.below hb)
  have HB0 := Lib.hid hb
  have a1 := rFixed_any Bf B g s p _ (hE.below (hb.mono hB)) hg (hR.below hb) hp (by omega)
  clear hb hW hE hR
  cases hu : lowG s p 8 with
  | error e =>
    rw [hu] at a1
    simp only [uV, uP] at a1
    obtain ⟨c, hc⟩ : ∃ c, ev Bf e = .iface 123 (.pointer (some c)) := by obtain rfl := lowG_err hu; exact ⟨_, rfl⟩
    rw [hc] at a1
    clear hc hu
    go_enter Tryd.func29, Tryd.ntmps29
    go_wp2_with fail
    refine a1.mono ?_
    rintro e w1 ⟨rfl, h1, h2⟩
    have hWr := (W0.out.other h2 (none_apart hgh)).1
    have H1 := Lib.hid h1; have H2 := Lib.hid h2; clear h1 h2 a1
    go_wp2_with fail
    refine (fixed_any B h [] none 0 w1 hWr (by decide) (by decide)).mono ?_
    rintro e w2 ⟨rfl, r2, h3, h4⟩
    have H5 := Lib.hid (H1.out.wrote h4 hgh (by simp))
    have H6 := Lib.hid (below_two HB0.out H2.out h4 hB hg hh)
    clear h3 h4 hWr
    go_wp2
    go_ret
    exact AgPost.bad rfl hp H5.out H6.out
  | ok y =>
    obtain ⟨x, q⟩ := y
    rw [hu] at a1
    simp only [uV, uP] at a1
    have HBK := Lib.hid (lowG_back hu)
    obtain ⟨hx, hpq, hle⟩ := lowG_ok hu
    have hx2 : x < 18446744073709551616 := hx
    have hq : q ≤ s.size := by omega
    clear hu
    go_enter Tryd.func29, Tryd.ntmps29
    go_wp2_with fail
    refine a1.mono ?_
    rintro e w1 ⟨rfl, h1, h2⟩
    have hWr := (W0.out.other h2 (none_apart hgh)).1
    have H1 := Lib.hid h1; have H2 := Lib.hid h2; clear h1 h2 a1
    go_wp2_with fail
    refine (fixed_any B h [] none x w1 hWr hx2 (by decide)).mono ?_
    rintro e w2 ⟨rfl, r2, h3, h4⟩
    have H3 := Lib.hid h3
    have H5 := Lib.hid (H1.out.wrote h4 hgh (by simp))
    have H6 := Lib.hid (below_two HB0.out H2.out h4 hB hg hh)
    clear h3 h4 hWr
    go_wp2
    go_ret
    exact AgPost.good rfl (by omega) hq H5.out H3.out (HBK.out) H6.out

set_option maxRecDepth 100000 in
set_option maxHeartbeats 2000000 in
theorem again_4 (Bf : Nat → Addr) (B g h : Nat) (s : ByteArray) (p : Nat) (o : OpV) (w : World) (hE : EnvB B w Bf) (hg : B ≤ g) (hR : Rdr w g s p) (hW : Wri w B h [] none) (hgh : g ≠ h) (hp : p ≤ s.size) (hs : s.size ≤ 4398046511104) (ho : o.In) (hk : o.k = 4) :
    Calls Tryd.prog 29 #[.pointer (some ⟨g, 0, none⟩), .pointer (some ⟨h, 0, none⟩), o.val] w (AgPost B g h s p w) := by
  obtain ⟨k, sec, u, i, n, m, t, A, ln, lc, ss⟩ := o
  obtain ⟨hn, hm⟩ := ho
  simp only at hk hn hm
  subst hk
  unfold OpV.val
  simp only
  have hB := hE.lt
  have hh := hW.lt.1
  have hb := Below.new w (.cells #[.int .i64 4, .bool sec, .int .u64 u, .int .i64 i, .int .i64 n, .int .i64 m, .string t, .slice A ln lc] 30)
  have W0 := Lib.hid (hW.below hb)
  have HB0 := Lib.hid hb
  have a1 := rByte_any Bf B g s p _ (hE.below (hb.mono hB)) hg (hR.below hb) hp (by omega)
  clear hb hW hE hR
  cases hu : lowG s p 1 with
  | error e =>
    rw [hu] at a1
    simp only [bV, uP] at a1
    obtain ⟨c, hc⟩ : ∃ c, ev Bf e = .iface 123 (.pointer (some c)) := by obtain rfl := lowG_err hu; exact ⟨_, rfl⟩
    rw [hc] at a1
    clear hc hu
    go_enter Tryd.func29, Tryd.ntmps29
    go_wp2_with fail
    refine a1.mono ?_
    rintro e w1 ⟨rfl, h1, h2⟩
    have hWr := (W0.out.other h2 (none_apart hgh)).1
    have H1 := Lib.hid h1; have H2 := Lib.hid h2; clear h1 h2 a1
    go_wp2_with fail
    refine (byte_any B h [] none 0 w1 hWr (by decide)).mono ?_
    rintro e w2 ⟨rfl, r2, h3, h4⟩
    have H5 := Lib.hid (H1.out.wrote h4 hgh (by simp))
    have H6 := Lib.hid (below_two HB0.out H2.out h4 hB hg hh)
    clear h3 h4 hWr
    go_wp2
    go_ret
    exact AgPost.bad rfl hp H5.out H6.out
  | ok y =>
    obtain ⟨x, q⟩ := y
    rw [hu] at a1
    simp only [bV, uP] at a1
    have hlx := lowG_back hu
    obtain ⟨hx, hpq, hle⟩ := lowG_ok hu
    have hx2 : x < 256 := hx
    have HBK := Lib.hid (show [(x : Int)] = rng s p (q - p) by rw [← hlx]; unfold lowL lowL; rw [Nat.mod_eq_of_lt hx2])
    have hq : q ≤ s.size := by omega
    clear hlx
    clear hu
    go_enter Tryd.func29, Tryd.ntmps29
    go_wp2_with fail
    refine a1.mono ?_
    rintro e w1 ⟨rfl, h1, h2⟩
    have hWr := (W0.out.other h2 (none_apart hgh)).1
    have H1 := Lib.hid h1; have H2 := Lib.hid h2; clear h1 h2 a1
    go_wp2_with fail
    refine (byte_any B h [] none x w1 hWr (by decide)).mono ?_
    rintro e w2 ⟨rfl, r2, h3, h4⟩
    have H3 := Lib.hid h3
    have H5 := Lib.hid (H1.out.wrote h4 hgh (by simp))
    have H6 := Lib.hid (below_two HB0.out H2.out h4 hB hg hh)
    clear h3 h4 hWr
    go_wp2
    go_ret
    exact AgPost.good rfl (by omega) hq H5.out H3.out (HBK.out) H6.out

set_option maxRecDepth 100000 in
set_option maxHeartbeats 2000000 in
theorem again_5 (Bf : Nat → Addr) (B g h : Nat) (s : ByteArray) (p : Nat) (o : OpV) (w : World) (hE : EnvB B w Bf) (hg : B ≤ g) (hR : Rdr w g s p) (hW : Wri w B h [] none) (hgh : g ≠ h) (hp : p ≤ s.size) (hs : s.size ≤ 4398046511104) (ho : o.In) (hk : o.k = 5) :
    Calls Tryd.prog 29 #[.pointer (some ⟨g, 0, none⟩), .pointer (some ⟨h, 0, none⟩), o.val] w (AgPost B g h s p w) := by
  obtain ⟨k, sec, u, i, n, m, t, A, ln, lc, ss⟩ := o
  obtain ⟨hn, hm⟩ := ho
  simp only at hk hn hm
  subst hk
  unfold OpV.val
  simp only
  have hB := hE.lt
  have hh := hW.lt.1
  have hb := Below.new w (.cells #[.int .i64 5, .bool sec, .int .u64 u, .int .i64 i, .int .i64 n, .int .i64 m, .string t, .slice A ln lc] 30)
  have W0 := Lib.hid (hW.below hb)
  have HB0 := Lib.hid hb
  have a1 := rFloat_any Bf B g s p _ (hE.below (hb.mono hB)) hg (hR.below hb) hp (by omega)
  clear hb hW hE hR
  cases hu : fG s p with
  | error e =>
    rw [hu] at a1
    simp only [fV, uP] at a1
    obtain ⟨c, hc⟩ : ∃ c, ev Bf e = .iface 123 (.pointer (some c)) := by 
      have : e = 1 ∨ e = 7 := by
        unfold fG at hu
        cases hl : lowG s p 4 with
        | error e1 => rw [hl] at hu; obtain rfl := Except.error.inj hu; exact .inl (lowG_err hl)
        | ok y => rw [hl] at hu; simp only [] at hu; split at hu; exact .inr (Except.error.inj hu).symm; cases hu
      rcases this with rfl | rfl <;> exact ⟨_, rfl⟩
    rw [hc] at a1
    clear hc hu
    go_enter Tryd.func29, Tryd.ntmps29
    go_wp2_with fail
    refine a1.mono ?_
    rintro e w1 ⟨rfl, h1, h2⟩
    have hWr := (W0.out.other h2 (none_apart hgh)).1
    have H1 := Lib.hid h1; have H2 := Lib.hid h2; clear h1 h2 a1
    go_wp2_with fail
    refine (float_any B h [] none 0 w1 hWr (by decide) (by decide)).mono ?_
    rintro e w2 ⟨rfl, r2, h3, h4⟩
    have H5 := Lib.hid (H1.out.wrote h4 hgh (by simp))
    have H6 := Lib.hid (below_two HB0.out H2.out h4 hB hg hh)
    clear h3 h4 hWr
    go_wp2
    go_ret
    exact AgPost.bad rfl hp H5.out H6.out
  | ok y =>
    obtain ⟨x, q⟩ := y
    rw [hu] at a1
    simp only [fV, uP] at a1
    obtain ⟨hfx, hx, hpq, hq⟩ := fG_back hu
    have HBK := Lib.hid hfx
    clear hfx
    clear hu
    go_enter Tryd.func29, Tryd.ntmps29
    go_wp2_with fail
    refine a1.mono ?_
    rintro e w1 ⟨rfl, h1, h2⟩
    have hWr := (W0.out.other h2 (none_apart hgh)).1
    have H1 := Lib.hid h1; have H2 := Lib.hid h2; clear h1 h2 a1
    go_wp2_with fail
    refine (float_any B h [] none x w1 hWr hx (by decide)).mono ?_
    rintro e w2 ⟨rfl, r2, h3, h4⟩
    have H3 := Lib.hid h3
    have H5 := Lib.hid (H1.out.wrote h4 hgh (by simp))
    have H6 := Lib.hid (below_two HB0.out H2.out h4 hB hg hh)
    clear h3 h4 hWr
    go_wp2
    go_ret
    exact AgPost.good rfl (by omega) hq H5.out H3.out (HBK.out) H6.out

set_option maxRecDepth 100000 in
set_option maxHeartbeats 2000000 in
theorem again_6 (Bf : Nat → Addr) (B g h : Nat) (s : ByteArray) (p : Nat) (o : OpV) (w : World) (hE : EnvB B w Bf) (hg : B ≤ g) (hR : Rdr w g s p) (hW : Wri w B h [] none) (hgh : g ≠ h) (hp : p ≤ s.size) (hs : s.size ≤ 4398046511104) (ho : o.In) (hk : o.k = 6) :
    Calls Tryd.prog 29 #[.pointer (some ⟨g, 0, none⟩), .pointer (some ⟨h, 0, none⟩), o.val] w (AgPost B g h s p w) := by
  obtain ⟨k, sec, u, i, n, m, t, A, ln, lc, ss⟩ := o
  obtain ⟨hn, hm⟩ := ho
  simp only at hk hn hm
  subst hk
  unfold OpV.val
  simp only
  have hB := hE.lt
  have hh := hW.lt.1
  have hb := Below.new w (.cells #[.int .i64 6, .bool sec, .int .u64 u, .int .i64 i, .int .i64 n, .int .i64 m, .string t, .slice A ln lc] 30)
  have W0 := Lib.hid (hW.below hb)
  have HB0 := Lib.hid hb
  have a1 := rText_any Bf B g s p n _ (hE.below (hb.mono hB)) hg (hR.below hb) hp (by omega) hn
  clear hb hW hE hR
  cases hu : tG s p n with
  | error e =>
    rw [hu] at a1
    simp only [tV, uP] at a1
    obtain ⟨c, hc⟩ : ∃ c, ev Bf e = .iface 123 (.pointer (some c)) := by rcases tG_err hu with rfl | rfl | rfl <;> exact ⟨_, rfl⟩
    rw [hc] at a1
    clear hc hu
    go_enter Tryd.func29, Tryd.ntmps29
    go_wp2_with fail
    refine a1.mono ?_
    rintro e w1 ⟨rfl, h1, h2⟩
    have hWr := (W0.out.other h2 (none_apart hgh)).1
    have H1 := Lib.hid h1; have H2 := Lib.hid h2; clear h1 h2 a1
    go_wp2_with fail
    refine (text_any B h [] none ⟨#[]⟩ w1 hWr (by show (uvL 0 ++ []).length ≤ _; rw [uvL_last (by decide)]; decide)).mono ?_
    rintro e w2 ⟨rfl, r2, h3, h4⟩
    have H5 := Lib.hid (H1.out.wrote h4 hgh (by simp))
    have H6 := Lib.hid (below_two HB0.out H2.out h4 hB hg hh)
    clear h3 h4 hWr
    go_wp2
    go_ret
    exact AgPost.bad rfl hp H5.out H6.out
  | ok y =>
    obtain ⟨x, q⟩ := y
    rw [hu] at a1
    simp only [tV, uP] at a1
    obtain ⟨hbk, hxs⟩ := tG_back hu
    have HBK := Lib.hid hbk
    have hlt := rng_length s (q - p) p
    rw [← hbk] at hlt
    obtain ⟨hpq, hq⟩ := tG_ok hu
    clear hbk
    clear hu
    go_enter Tryd.func29, Tryd.ntmps29
    go_wp2_with fail
    refine a1.mono ?_
    rintro e w1 ⟨rfl, h1, h2⟩
    have hWr := (W0.out.other h2 (none_apart hgh)).1
    have H1 := Lib.hid h1; have H2 := Lib.hid h2; clear h1 h2 a1
    go_wp2_with fail
    refine (text_any B h [] none x w1 hWr (by simp only [List.nil_append]; omega)).mono ?_
    rintro e w2 ⟨rfl, r2, h3, h4⟩
    have H3 := Lib.hid h3
    have H5 := Lib.hid (H1.out.wrote h4 hgh (by simp))
    have H6 := Lib.hid (below_two HB0.out H2.out h4 hB hg hh)
    clear h3 h4 hWr
    go_wp2
    go_ret
    exact AgPost.good rfl (by omega) hq H5.out H3.out (HBK.out) H6.out
end Go.Proofs.YtnodjcapclkmhaaDoor
