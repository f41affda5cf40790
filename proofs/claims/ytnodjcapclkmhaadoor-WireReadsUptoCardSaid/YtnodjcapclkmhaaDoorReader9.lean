/- The Reader's Texts, whole. -/
import Derived.Test.YtnodjcapclkmhaaDoorReader8
namespace Go.Proofs.YtnodjcapclkmhaaDoor
open Go.RowKit

/-- What Texts leaves: an error, and the Reader where it was; or a list of the call's own. -/
def XRes (B : Nat → Addr) (g : Nat) (s : ByteArray) (p : Nat) (r : Except Nat (List ByteArray × Nat)) (w : World) (e : Ending) (w' : World) : Prop :=
  (∃ k, r = .error k ∧ (k = 1 ∨ k = 2 ∨ k = 3) ∧ e = .returned (.tuple #[.slice none 0 0, ev B k]) ∧ Rdr w' g s p ∧ Wrote w w' g none none) ∨
  (∃ L q v, r = .ok (L, q) ∧ q ≤ s.size ∧ L.length ≤ s.size ∧ e = .returned (.tuple #[v, .nilIface]) ∧ Rdr w' g s q ∧ Wrote w w' g none none ∧ ownsT w' w.heap.size v L)
theorem XRes.bad {B : Nat → Addr} {g p k : Nat} {s : ByteArray} {r : Except Nat (List ByteArray × Nat)} {w w' : World} {e : Ending} (h : r = .error k) (hk : k = 1 ∨ k = 2 ∨ k = 3) (he : e = .returned (.tuple #[.slice none 0 0, ev B k])) (hr : Rdr w' g s p) (hw : Wrote w w' g none none) : XRes B g s p r w e w' :=
  .inl ⟨k, h, hk, he, hr, hw⟩
theorem XRes.good {B : Nat → Addr} {g p q : Nat} {s : ByteArray} {r : Except Nat (List ByteArray × Nat)} {w w' : World} {e : Ending} {L : List ByteArray} {v : Value} (h : r = .ok (L, q)) (hq : q ≤ s.size) (hl : L.length ≤ s.size) (he : e = .returned (.tuple #[v, .nilIface])) (hr : Rdr w' g s q) (hw : Wrote w w' g none none) (ho : ownsT w' w.heap.size v L) : XRes B g s p r w e w' :=
  .inr ⟨L, q, v, h, hq, hl, he, hr, hw, ho⟩
theorem ownsT.mono {w : World} {b b' : Nat} {v : Value} {L : List ByteArray} (h : ownsT w b v L) (hb : b' ≤ b) : ownsT w b' v L := by
  refine ⟨h.1, ?_⟩
  rcases h.2 with hn | ⟨g, cap, cur, hv, hg, rest⟩
  · exact .inl hn
  · exact .inr ⟨g, cap, cur, hv, Nat.le_trans hb hg, rest⟩
theorem ownsT.form {w : World} {b : Nat} {v : Value} {L : List ByteArray} (h : ownsT w b v L) : ∃ A c, v = .slice A L.length c := by
  rcases h.2 with ⟨rfl, h0⟩ | ⟨g, cap, cur, rfl, _⟩
  · exact ⟨none, 0, by rw [h0]⟩
  · exact ⟨some ⟨g, 0, none⟩, cap, rfl⟩

set_option maxRecDepth 100000 in
set_option maxHeartbeats 400000 in
theorem undoneX_any (B : Nat → Addr) (g : Nat) (s : ByteArray) (p : Nat) (r : Except Nat (List ByteArray × Nat)) (caps : Array Value) (w : World) (hR : Rdr w g s p)
    (hc : Calls Tryd.prog 48 caps w (XPost B g s r w)) :
    Calls Tryd.prog 47 #[.pointer (some ⟨g, 0, none⟩), .func (.func 48) #[] caps] w (XRes B g s p r w) := by
  obtain ⟨c0, c1, f1, hgl⟩ := hR.cells
  clear hR
  go_enter Tryd.func47, Tryd.ntmps47
  go_wp2_with fail
  refine hc.mono ?_
  intro e w' h
  rcases h with ⟨k, hk, hk3, he, ⟨q, hq⟩, hw⟩ | ⟨L, q, v, hk, hq, hl, he, hr, hw, ho⟩
  · obtain ⟨d, hd⟩ : ∃ d, ev B k = .iface 123 (.pointer (some d)) := by rcases hk3 with rfl | rfl | rfl <;> exact ⟨_, rfl⟩
    obtain ⟨d0, d1, e1, hgl'⟩ := hq.cells
    have HK := Lib.hid hk; have H3 := Lib.hid hk3; have HQ := Lib.hid hq; have HW := Lib.hid hw; have HD := Lib.hid hd.symm
    rw [hd] at he
    subst he
    clear hk hk3 hq hw hd hc
    go_wp2
    go_ret2
    exact XRes.bad HK.out H3.out (by rw [← HD.out]; rfl) (HQ.out.store p) (HW.out.trans (Wrote.store _ _ _))
  · have HK := Lib.hid hk; have HQ := Lib.hid hr; have HW := Lib.hid hw; have HO := Lib.hid ho
    subst he
    clear hk hr hw ho hc
    go_wp2
    go_ret2
    exact XRes.good HK.out hq hl rfl HQ.out HW.out HO.out

theorem three_boxes (w : World) (u v x : Value) (t1 t2 t3 : TypeId) : (((w.alloc (.cells #[u] t1)).alloc (.cells #[v] t2)).alloc (.cells #[x] t3)).cell? ⟨w.heap.size, 0, none⟩ = some u ∧ (((w.alloc (.cells #[u] t1)).alloc (.cells #[v] t2)).alloc (.cells #[x] t3)).cell? ⟨w.heap.size + 1, 0, none⟩ = some v ∧
    (((w.alloc (.cells #[u] t1)).alloc (.cells #[v] t2)).alloc (.cells #[x] t3)).cell? ⟨w.heap.size + 2, 0, none⟩ = some x ∧
    Below w.heap.size w (((w.alloc (.cells #[u] t1)).alloc (.cells #[v] t2)).alloc (.cells #[x] t3)) := by
  obtain ⟨a1, a2, a3⟩ := two_boxes w u v t1 t2
  have hs : ((w.alloc (.cells #[u] t1)).alloc (.cells #[v] t2)).heap.size = w.heap.size + 2 := by simp
  have b := Below.new ((w.alloc (.cells #[u] t1)).alloc (.cells #[v] t2)) (.cells #[x] t3)
  have c := one_box ((w.alloc (.cells #[u] t1)).alloc (.cells #[v] t2)) x t3
  rw [hs] at c
  exact ⟨(b.cell (p := ⟨w.heap.size, 0, none⟩) (by show w.heap.size < _; omega)).trans a1, (b.cell (p := ⟨w.heap.size + 1, 0, none⟩) (by show w.heap.size + 1 < _; omega)).trans a2, c, a3.trans (b.mono (by omega))⟩

set_option maxRecDepth 100000 in
set_option maxHeartbeats 1000000 in
theorem rTexts_any (B : Nat → Addr) (B0 g : Nat) (s : ByteArray) (p : Nat) (ct m : Int) (w : World) (hE : EnvB B0 w B) (hg0 : B0 ≤ g) (hR : Rdr w g s p) (hp : p ≤ s.size) (hs : s.size ≤ 4398046511104)
    (hct : -9223372036854775808 ≤ ct ∧ ct ≤ 9223372036854775807) (hm : -9223372036854775808 ≤ m ∧ m ≤ 9223372036854775807) :
    Calls Tryd.prog 18 #[.pointer (some ⟨g, 0, none⟩), .int .i64 ct, .int .i64 m] w (XRes B g s p (xsG s p ct m) w) := by
  obtain ⟨b1, b2, b4, b3⟩ := three_boxes w (.pointer (some ⟨g, 0, none⟩)) (.int .i64 ct) (.int .i64 m) 42 3 3
  have hgl := hR.cells.2.2.2
  have a0 := texts1_any B B0 g w.heap.size (w.heap.size + 1) (w.heap.size + 2) s p ct m _ (hE.below (b3.mono hE.lt)) hg0 (hR.below b3) hp hs hct hm b1 b2 b4 (by omega) (by omega)
  have a1 := undoneX_any B g s p _ _ _ (hR.below b3) a0
  have H3 := Lib.hid (Wrote.of_below b3 g none)
  have H4 := Lib.hid b3.size
  clear a0 b1 b2 b3 b4 hR hE hct hm
  generalize xsG s p ct m = R at *
  go_enter Tryd.func18, Tryd.ntmps18
  go_wp2_with fail
  refine a1.mono ?_
  intro e w' h
  rcases h with ⟨k, hk, hk3, he, hq, hw⟩ | ⟨L, q, v, hk, hq, hl, he, hr, hw, ho⟩
  · have HK := Lib.hid hk; have H5 := Lib.hid hk3; have HQ := Lib.hid hq; have HW := Lib.hid hw
    generalize hV : ev B k = V at *
    have HV := Lib.hid hV
    subst he
    clear hk hk3 hq hw a1 hV
    go_wp2
    go_ret2
    exact XRes.bad HK.out H5.out (by rw [HV.out]; rfl) HQ.out (H3.out.trans HW.out)
  · have HK := Lib.hid hk; have HQ := Lib.hid hr; have HW := Lib.hid hw; have HO := Lib.hid (ho.mono H4.out)
    subst he
    clear hk hr hw ho a1
    go_wp2
    go_ret2
    exact XRes.good HK.out hq hl rfl HQ.out (H3.out.trans HW.out) HO.out
end Go.Proofs.YtnodjcapclkmhaaDoor
