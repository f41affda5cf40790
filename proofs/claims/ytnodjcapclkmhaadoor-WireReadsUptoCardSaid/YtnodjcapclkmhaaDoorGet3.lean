/- The document's GetTexts; SameTexts: walked. -/
import Derived.Test.YtnodjcapclkmhaaDoorGet2
namespace Go.Proofs.YtnodjcapclkmhaaDoor
open Go.RowKit

/-- What GetTexts leaves. -/
def GRes (s : ByteArray) (p : Nat) (r : Except Nat (List ByteArray × Nat)) (w : World) (e : Ending) (w' : World) : Prop :=
  (∃ k, r = .error k ∧ (k = 1 ∨ k = 2 ∨ k = 3) ∧ e = .returned (.tuple #[.slice none 0 0, .int .i64 p, .int .i64 k]) ∧ Below w.heap.size w w') ∨
  (∃ L q v, r = .ok (L, q) ∧ q ≤ s.size ∧ L.length ≤ s.size ∧ e = .returned (.tuple #[v, .int .i64 q, .int .i64 0]) ∧ Below w.heap.size w w' ∧ ownsT w' w.heap.size v L)
theorem GRes.bad {p k : Nat} {s : ByteArray} {r : Except Nat (List ByteArray × Nat)} {w w' : World} {e : Ending} (h : r = .error k) (hk : k = 1 ∨ k = 2 ∨ k = 3) (he : e = .returned (.tuple #[.slice none 0 0, .int .i64 p, .int .i64 k])) (hw : Below w.heap.size w w') : GRes s p r w e w' :=
  .inl ⟨k, h, hk, he, hw⟩
theorem GRes.good {p q : Nat} {s : ByteArray} {r : Except Nat (List ByteArray × Nat)} {w w' : World} {e : Ending} {L : List ByteArray} {v : Value} (h : r = .ok (L, q)) (hq : q ≤ s.size) (hl : L.length ≤ s.size) (he : e = .returned (.tuple #[v, .int .i64 q, .int .i64 0])) (hw : Below w.heap.size w w') (ho : ownsT w' w.heap.size v L) : GRes s p r w e w' :=
  .inr ⟨L, q, v, h, hq, hl, he, hw, ho⟩
structure Gd (s : ByteArray) (m : Int) (R : Except Nat (List ByteArray × Nat)) (w wr : World) (v : Value) (n q : Nat) (L : List ByteArray) : Prop where
  res : R = lsA s m n q L
  own : ownsT wr w.heap.size v L
  bel : Below w.heap.size w wr
  le : q ≤ s.size
  len : L.length ≤ q
theorem below_grown {B : Nat} {w wr w2 : World} {b : Option Nat} (h : Below B w wr) (hB : B ≤ wr.heap.size) (hg : wr.grownBy w2 b) (hb : ∀ k, b = some k → B ≤ k) : Below B w w2 :=
  h.trans ⟨hg.os, hg.tape, hg.output, hg.size, fun k hk => hg.block k (by omega) (fun e => by have := hb k e.symm; omega)⟩

set_option maxRecDepth 100000 in
set_option maxHeartbeats 2000000 in
theorem getTexts_any (s : ByteArray) (p : Nat) (ct m : Int) (w : World) (hp : p ≤ s.size) (hs : s.size ≤ 4398046511104)
    (hct : -9223372036854775808 ≤ ct ∧ ct ≤ 9223372036854775807) (hm : -9223372036854775808 ≤ m ∧ m ≤ 9223372036854775807) :
    Calls Tryd.prog 62 #[.string s, .int .i64 p, .int .i64 ct, .int .i64 m] w (GRes s p (xsG s p ct m) w) := by
  have a1 := getUpto_any s p ct w hp (by omega) hct
  cases hu : upG s p ct with
  | error e =>
    have HX := Lib.hid (show xsG s p ct m = .error e by unfold xsG; rw [hu])
    rw [hu] at a1
    simp only [g3] at a1
    have HK := Lib.hid (upG_err hu)
    have he : ((e : Int) != 0) = true := by rcases upG_err hu with rfl | rfl | rfl <;> rfl
    have he2 : ¬ (e : Int) = 0 := by rcases upG_err hu with rfl | rfl | rfl <;> omega
    clear hu hm hct
    generalize xsG s p ct m = R at *
    go_enter Tryd.func62, Tryd.ntmps62
    go_wp2_with fail
    refine a1.mono ?_
    rintro e w' ⟨rfl, rfl⟩
    go_wp2
    go_ret3
    exact GRes.bad HX.out HK.out rfl (Below.refl _ _)
  | ok y =>
    obtain ⟨n, q⟩ := y
    obtain ⟨hn, hpq, hq, _⟩ := upG_ok hu
    have HX := Lib.hid (show xsG s p ct m = lsA s m n q [] by unfold xsG; rw [hu])
    rw [hu] at a1
    simp only [g3] at a1
    clear hu
    generalize xsG s p ct m = R at *
    go_enter Tryd.func62, Tryd.ntmps62
    go_wp2_with fail
    refine a1.mono ?_
    rintro e w' ⟨rfl, rfl⟩
    go_wp2
    have hn2 : (n : Int) ≤ 9223372036854775807 := Int.le_trans hn hct.2
    clear hn hct a1
    go_loopw [14, 15, 12, 16, 17, 18] (fun vl vi vq _ _ _ wr => ∃ (i q' : Nat) (L : List ByteArray), i ≤ n ∧ vi = .int .i64 i ∧ vq = .int .i64 q' ∧ Hid (Gd s m R w wr vl (n - i) q' L)) (fun _ vi _ _ _ _ _ => n - (intOf vi).toNat)
    case atStart => exact ⟨0, q, [], Nat.zero_le _, rfl, rfl, HX.out, ownsT.nil _ _, Below.refl _ _, hq, Nat.zero_le _⟩
    case round =>
      obtain ⟨i, q', L, hi, rfl, rfl, hh⟩ := hrel
      have a3 := fun w => getText_any s q' m w hh.out.le (by omega) hm
      have HQ := Lib.hid hm
      clear hm
      by_cases hlt : i < n
      · have hr := hh.out.res
        rw [show n - i = (n - (i + 1)) + 1 by omega] at hr
        cases ht : tG s q' m with
        | error e =>
          have HR := Lib.hid (hr.trans (lsA_err ht))
          rw [ht] at a3
          simp only [g3] at a3
          have HK := Lib.hid (tG_err ht)
          have he : ((e : Int) != 0) = true := by rcases tG_err ht with rfl | rfl | rfl <;> rfl
          have he2 : ¬ (e : Int) = 0 := by rcases tG_err ht with rfl | rfl | rfl <;> omega
          clear ht hr
          go_wp2_with fail
          refine (a3 _).mono ?_
          rintro e w' ⟨rfl, rfl⟩
          go_wp2
          go_ret3
          exact GRes.bad HR.out HK.out rfl hh.out.bel
        | ok y =>
          obtain ⟨x, r⟩ := y
          have HR := Lib.hid (hr.trans (lsA_ok ht))
          obtain ⟨hqr, hrs⟩ := tG_ok ht
          rw [ht] at a3
          simp only [g3] at a3
          clear ht hr
          have hown := hh.out.own
          have hlen := hh.out.len
          have hsz := hh.out.bel.size
          go_wp2_with fail
          refine (a3 _).mono ?_
          rintro e w2 ⟨rfl, rfl⟩
          go_wp2_with (first | (at_builtin; refine append_txt rfl _ _ 28 rfl w.heap.size Tryd.underlying28 info9 _ _ rfl hown _ rfl (by omega) (by omega) ?_))
          intro k cap w3 ho hgr
          have hlt2 := World.ownsRow.lt hown
          have H5 := Lib.hid ho
          have H6 := Lib.hid (below_grown hh.out.bel hsz hgr (fun k hk => (hlt2 k hk).1))
          clear ho hgr hlt2 hown
          go_wp2
          go_roundw
          case rel => exact ⟨i + 1, r, L ++ [x], by omega, by go_num, rfl, HR.out, H5.out, H6.out, hrs, by rw [List.length_append]; simp; omega⟩
          case measure => simp [intOf]; omega
      · obtain rfl : i = n := by omega
        have HR := Lib.hid (show R = .ok (L, q') by have := hh.out.res; rwa [Nat.sub_self] at this)
        clear a3
        go_wp2
        go_ret3
        exact GRes.good HR.out hh.out.le (Nat.le_trans hh.out.len hh.out.le) rfl hh.out.bel hh.out.own
end Go.Proofs.YtnodjcapclkmhaaDoor
