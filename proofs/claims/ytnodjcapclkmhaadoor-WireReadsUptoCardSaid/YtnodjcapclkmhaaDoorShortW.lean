/- WireShort, walked: whatever the value, the tail and the cut, the law answers true. -/
import Derived.Test.YtnodjcapclkmhaaDoorShorts
import Derived.Test.YtnodjcapclkmhaaDoorFixed
import Derived.IntWalk
namespace Go.Proofs.YtnodjcapclkmhaaDoor
open Go.RowKit

theorem putL_pos {o : OpV} (h : okK o = true) : 1 ≤ (putL o).length := by
  have hk8 : 1 ≤ o.k ∧ o.k ≤ 8 := by unfold okK at h; simpa using h
  rcases (show o.k = 1 ∨ o.k = 2 ∨ o.k = 3 ∨ o.k = 4 ∨ o.k = 5 ∨ o.k = 6 ∨ o.k = 7 ∨ o.k = 8 by omega) with hk | hk | hk | hk | hk | hk | hk | hk
  · have e : putL o = uvL o.u := by unfold putL; simp [hk]
    rw [e]; exact uvL_pos _
  · have e : putL o = uvL (zig o.i) := by unfold putL; simp [hk]
    rw [e]; exact uvL_pos _
  · have e : putL o = lowL o.u 8 := by unfold putL; simp [hk]
    rw [e, lowL_length]; decide
  · have e : putL o = lowL o.u 1 := by unfold putL; simp [hk]
    rw [e, lowL_length]; decide
  · have e : putL o = lowL (fbits (o.u % 4294967296)) 4 := by unfold putL; simp [hk]
    rw [e, lowL_length]; decide
  · have e : putL o = textL o.s := by unfold putL; simp [hk]
    rw [e]; unfold textL; rw [List.length_append]; have := uvL_pos o.s.size; omega
  · have e : putL o = textsL o.ss o.ln := by unfold putL; simp [hk]
    rw [e]; unfold textsL; rw [List.length_append]; have := uvL_pos o.ln; omega
  · have e : putL o = uvL o.u := by unfold putL; simp [hk]
    rw [e]; exact uvL_pos _
theorem byt_left {a b : ByteArray} {i : Nat} (h : i < a.size) : byt (a ++ b) i = byt a i := by
  have hs : (a ++ b).size = a.size + b.size := ByteArray.size_append
  rw [byt_eq h, byt_eq (show i < (a ++ b).size by omega)]
  congr 1
  exact ByteArray.getElem_append_left h
theorem rng_congr {s t : ByteArray} : ∀ (n a : Nat), (∀ j, a ≤ j → j < a + n → byt t j = byt s j) → rng t a n = rng s a n
  | 0, _, _ => rfl
  | n + 1, a, h => by
    show (byt t a : Int) :: rng t (a + 1) n = (byt s a : Int) :: rng s (a + 1) n
    rw [h a (Nat.le_refl _) (by omega), rng_congr n (a + 1) (fun j h1 h2 => h j (by omega) (by omega))]
theorem rng_str {xs : List Int} (h : byteL xs) : rng (strOfNums xs) 0 xs.length = xs := by
  have := nums_rng (strOfNums xs)
  rw [nums_str h, strOfNums_size] at this
  exact this.symm
theorem pre_str {xs : List Int} (h : byteL xs) (t : ByteArray) : Pre (strOfNums xs ++ t) 0 xs := by
  refine ⟨by rw [ByteArray.size_append, strOfNums_size]; omega, ?_⟩
  rw [rng_congr (s := strOfNums xs) _ _ (fun j _ h2 => byt_left (by rw [strOfNums_size]; omega))]
  exact rng_str h
theorem rng_take (s : ByteArray) : ∀ (n m a : Nat), m ≤ n → rng s a m = (rng s a n).take m
  | n, 0, a, _ => by simp [rng]
  | n + 1, m + 1, a, h => by
    show (byt s a : Int) :: rng s (a + 1) m = ((byt s a : Int) :: rng s (a + 1) n).take (m + 1)
    rw [List.take_succ_cons, ← rng_take s n m (a + 1) (by omega)]
theorem cut_str {xs : List Int} (h : byteL xs) {c : Nat} (hc : c < xs.length) : Cut ((strOfNums xs).extract 0 c) 0 xs := by
  have hz : ((strOfNums xs).extract 0 c).size = c := by rw [ext_size _ _ _ (by rw [strOfNums_size]; omega)]; omega
  refine ⟨Nat.zero_le _, by rw [hz]; omega, ?_⟩
  rw [hz, Nat.sub_zero, rng_congr (s := strOfNums xs) _ _ (fun j _ h2 => by rw [byt_extract (by rw [strOfNums_size]; omega) (by omega), Nat.zero_add]),
    rng_take _ xs.length c 0 (by omega), rng_str h]
theorem box8 {w : World} {bx : Nat} {a b c d e f g h : Value} (hx : w.heap[bx]? = some (.cells #[a, b, c, d, e, f, g, h] 30 (0, 0))) :
    w.cell? ⟨bx, 0, none⟩ = some a ∧ w.cell? ⟨bx, 1, none⟩ = some b ∧ w.cell? ⟨bx, 2, none⟩ = some c ∧ w.cell? ⟨bx, 3, none⟩ = some d ∧ w.cell? ⟨bx, 4, none⟩ = some e ∧ w.cell? ⟨bx, 5, none⟩ = some f ∧ w.cell? ⟨bx, 6, none⟩ = some g ∧ w.cell? ⟨bx, 7, none⟩ = some h := by
  refine ⟨?_, ?_, ?_, ?_, ?_, ?_, ?_, ?_⟩ <;> (unfold World.cell?; rw [hx]; rfl)

set_option maxRecDepth 100000 in
set_option maxHeartbeats 4000000 in
theorem short_walk (Bf : Nat → Addr) (o : OpV) (t : ByteArray) (ct : Int) (w : World) (hE : Env w Bf) (ho : o.Ok) (hA : Tv w o.A o.ln o.lc o.ss) (hAb : 0 < o.ln → ∀ a, o.A = some a → a.block < w.heap.size) (hln : o.ln ≤ 4000000) (hz : ∀ i, i < o.ln → (o.ss i).size ≤ 4000000) (hz2 : o.s.size ≤ 4000000) (hl : (putL o).length ≤ 100000000) (ht : t.size ≤ 4000000) :
    Calls Tryd.prog 8 #[o.val, .string t, .int .i64 ct] w fun e w' => e = .returned (.bool true) ∧ Below w.heap.size w w' := by
  have hv : o.val = .agg #[.int .i64 o.k, .bool o.sec, .int .u64 o.u, .int .i64 o.i, .int .i64 o.n, .int .i64 o.m, .string o.s, .slice o.A o.ln o.lc] := rfl
  have hb := Below.new w (.cells #[.int .i64 o.k, .bool o.sec, .int .u64 o.u, .int .i64 o.i, .int .i64 o.n, .int .i64 o.m, .string o.s, .slice o.A o.ln o.lc] 30)
  have HX := Lib.hid (box_cells w (.int .i64 o.k) (.bool o.sec) (.int .u64 o.u) (.int .i64 o.i) (.int .i64 o.n) (.int .i64 o.m) (.string o.s) (.slice o.A o.ln o.lc))
  have hs1 : (w.alloc (.cells #[.int .i64 o.k, .bool o.sec, .int .u64 o.u, .int .i64 o.i, .int .i64 o.n, .int .i64 o.m, .string o.s, .slice o.A o.ln o.lc] 30)).heap.size = w.heap.size + 1 := by simp
  have HB0 := Lib.hid hb
  have HE := Lib.hid hE; have HA := Lib.hid hA; have HAb := Lib.hid hAb; have HO := Lib.hid ho; have HV := Lib.hid hv; have HZ := Lib.hid hz
  have hEx := Lib.hid (hE.below hb)
  clear hE hA hAb ho hb hz
  rw [hv]
  clear hv
  go_enter Tryd.func8, Tryd.ntmps8
  go_wp2_with fail
  generalize w.alloc (.cells #[.int .i64 o.k, .bool o.sec, .int .u64 o.u, .int .i64 o.i, .int .i64 o.n, .int .i64 o.m, .string o.s, .slice o.A o.ln o.lc] 30) = w0 at *
  refine (fixed_fact Bf _ hEx.out).mono ?_
  rintro e w1 ⟨rfl, hb1⟩
  have hsz1 := hb1.size
  rw [hs1] at hsz1
  have HB1 := Lib.hid (HB0.out.trans (hb1.mono (by omega)))
  have HX1 := Lib.hid ((hb1.block _ (by omega)).trans HX.out)
  clear hb1
  go_wp2_with fail
  refine (new_any _).mono ?_
  rintro e w' ⟨rfl, rfl⟩
  have hn2 := Below.new w1 (.cells #[.slice none 0 0] 71)
  have hW2 := new_buf w1 w1.heap.size 71 5 (Nat.le_refl _)
  have HE1 := Lib.hid (HE.out.below HB1.out)
  obtain ⟨B, hBe⟩ : ∃ B, B = w1.heap.size := ⟨_, rfl⟩
  rw [← hBe] at hn2 hW2 hsz1 ⊢
  have HEB := Lib.hid (show EnvB B w1 Bf from ⟨w1, HE1.out, hBe.symm, Below.refl _ _⟩)
  have hx2 := (hn2.block w.heap.size (by omega)).trans HX1.out
  have hbel2 := HB1.out.trans (hn2.mono (show w.heap.size ≤ B by omega))
  have a1 := write_any B B [] none o _ hW2 HO.out ⟨HA.out.1, HA.out.2.below HAb.out hbel2⟩ (fun h a e => by have := HAb.out h a e; omega) (by omega) (by simpa using by omega)
  rw [HV.out] at a1
  rw [List.nil_append] at a1
  have HN2 := Lib.hid hn2
  have hB1 : B ≤ w1.heap.size := by omega
  have hB2 := Nat.le_trans hB1 hn2.size
  generalize w1.alloc (.cells #[.slice none 0 0] 71) = w2 at *
  obtain ⟨c0, c1, c2, c3, c4, c5, c6, c7⟩ := box8 hx2
  have HX2 := Lib.hid hx2
  clear hBe hn2 hW2 hx2 hbel2
  go_wp2_with fail
  cases hok : okK o with
  | false =>
    rw [hok] at a1
    refine a1.mono ?_
    rintro e w3 ⟨rfl, r3, h1, h2⟩
    have HB3 := Lib.hid (HN2.out.trans (h2.below hB2 (Nat.le_refl _) (fun k hk => by cases hk)))
    clear h1 h2 a1
    go_wp2
    go_ret
    exact ⟨rfl, HB1.out.trans (HB3.out.mono (by omega))⟩
  | true =>
    rw [hok] at a1
    refine a1.mono ?_
    rintro e w3 ⟨rfl, r3, h1, h2⟩
    have hbel3 := HN2.out.trans (h2.below hB2 (Nat.le_refl _) (fun k hk => by cases hk))
    have hsz3 := h1.lt.2.1
    have a2 := out_any B B (putL o) r3 w3 h1
    have hpos := putL_pos hok
    have hbl := byteL_put o
    have hP0 := pre_str hbl t
    have hC0 := fun c (hc : c < (putL o).length) => cut_str hbl hc
    have hS0 : (strOfNums (putL o)).size = (putL o).length := strOfNums_size _
    have H3 := Lib.hid hbel3
    have hx3 := Lib.hid ((h2.block w.heap.size (by omega) (by omega) (by simp)).trans HX2.out)
    clear h1 h2 a1 hbl hbel3 c0 c1 c2 c3 c4 c5 c6 c7
    go_wp2_with fail
    refine a2.mono ?_
    rintro e w' ⟨rfl, rfl⟩
    obtain ⟨S, hSe⟩ : ∃ S, S = strOfNums (putL o) := ⟨_, rfl⟩
    rw [← hSe] at hP0 hC0 hS0 ⊢
    obtain ⟨L, hLe⟩ : ∃ L, L = (putL o).length := ⟨_, rfl⟩
    have hzt : (S ++ t).size = S.size + t.size := ByteArray.size_append
    have hSL : S.size ≤ 100000000 := by omega
    have kss : ¬ 9223372036854775807 < S.size + t.size := by omega
    have hpos2 : 1 ≤ S.size := by omega
    have HP := Lib.hid hP0; have HC := Lib.hid (fun c (hc : c < S.size) => hC0 c (by omega)); have HS := Lib.hid hS0
    have HZT := Lib.hid hzt
    clear hP0 hC0 hS0 hSe hLe a2 hpos hzt
    go_wp2_with fail
    refine (read_any (S ++ t) _).mono ?_
    rintro e w' ⟨rfl, rfl⟩
    have hR4 := new_rdr w3 (S ++ t)
    have hn4 := Below.new w3 (.cells #[.string (S ++ t), .int .i64 0] 85)
    have hbel4 := H3.out.trans (hn4.mono (by omega))
    have a3 := reads_any Bf B w3.heap.size (S ++ t) 0 o _ (HEB.out.below hbel4) (by omega) hR4 (Nat.zero_le _) (by rw [HZT.out]; omega) HO.out hok HP.out ⟨HA.out.1, HA.out.2.below HAb.out ((HB1.out.trans (hbel4.mono (by omega))))⟩ (fun h a e => by have := HAb.out h a e; omega) (by omega) (fun i hi => by have := HZ.out i hi; omega)
    rw [HV.out, show 0 + (putL o).length = S.size by have := HS.out; omega] at a3
    have hx4 := (hn4.block w.heap.size (by omega)).trans hx3.out
    have H4 := Lib.hid hbel4
    obtain ⟨g, hg⟩ : ∃ g, g = w3.heap.size := ⟨_, rfl⟩
    have hgB : B ≤ g := by omega
    rw [← hg] at a3 ⊢
    have hwg : w.heap.size < g := by omega
    generalize w3.alloc (.cells #[.string (S ++ t), .int .i64 0] 85) = w4 at *
    obtain ⟨c0, c1, c2, c3, c4, c5, c6, c7⟩ := box8 hx4
    have HX4 := Lib.hid hx4
    have hwl4 : w.heap.size < w4.heap.size := World.block_lt_of_cell? w4 _ c0
    clear hR4 hn4 hbel4 hx4 hg hsz3
    go_wp2_with fail
    refine a3.mono ?_
    rintro e w5 ⟨rfl, h5, hb5⟩
    have a4 := at_any g (S ++ t) S.size w5 h5
    have a5 := left_any g (S ++ t) S.size w5 h5 (by rw [HZT.out]; omega) (by rw [HZT.out]; omega)
    rw [HZT.out, Nat.add_sub_cancel_left] at a5
    have H5 := Lib.hid (H4.out.trans hb5)
    have hx5 := Lib.hid ((hb5.block w.heap.size (by omega)).trans HX4.out)
    clear h5 hb5 a3 c0 c1 c2 c3 c4 c5 c6 c7
    go_wp2_with fail
    refine a4.mono ?_
    rintro e w' ⟨rfl, rfl⟩
    go_wp2_with fail
    refine a5.mono ?_
    rintro e w' ⟨rfl, k, rfl⟩
    have hs0 : ((S.size : Int) == 0) = false := by rw [beq_eq_false_iff_ne]; omega
    obtain ⟨c, hc, hcs⟩ : ∃ c : Nat, wrap64 ((IntKind.u64.wrap ct).tmod (S.size : Int)) = (c : Int) ∧ c < S.size := by
      have h0 : 0 ≤ IntKind.u64.wrap ct := by rw [IntKind.wrap_u64]; omega
      have h1 : (IntKind.u64.wrap ct).tmod (S.size : Int) = (IntKind.u64.wrap ct) % (S.size : Int) := Int.tmod_eq_emod_of_nonneg h0
      have h2 := Int.emod_nonneg (IntKind.u64.wrap ct) (show (S.size : Int) ≠ 0 by omega)
      have h3 := Int.emod_lt_of_pos (IntKind.u64.wrap ct) (show (0 : Int) < S.size by omega)
      rw [h1]
      refine ⟨((IntKind.u64.wrap ct) % (S.size : Int)).toNat, ?_, by omega⟩
      unfold wrap64
      omega
    have hc1 : (c : Int) ≤ (S.size : Int) := by omega
    have hc2 : c ≤ S.size := by omega
    have hCut := Lib.hid (HC.out c hcs)
    have hcz := ext_size S 0 c hc2
    have HC2 := Lib.hid (show (S.extract 0 c).size ≤ 100000000 by omega)
    clear a4 a5 hcz
    go_wp2_with fail
    refine (read_any (S.extract 0 c) _).mono ?_
    rintro e w' ⟨rfl, rfl⟩
    have hb5k : Below B w1 (w5.drewN k) := below_drewN H5.out k
    have hR6 := new_rdr (w5.drewN k) (S.extract 0 c)
    have hn6 := Below.new (w5.drewN k) (.cells #[.string (S.extract 0 c), .int .i64 0] 85)
    have hsz5 := hb5k.size
    have hbel6 := hb5k.trans (hn6.mono (by omega))
    have a3 := shorts_any Bf B (w5.drewN k).heap.size (S.extract 0 c) 0 o _ (HEB.out.below hbel6) (by omega) hR6 (Nat.zero_le _) (by have := HC2.out; omega) HO.out hok hCut.out ⟨HA.out.1, HA.out.2.below HAb.out ((HB1.out.trans (hbel6.mono (by omega))))⟩ (fun h a e => by have := HAb.out h a e; omega) (by omega) (fun i hi => by have := HZ.out i hi; omega) (by omega)
    rw [HV.out] at a3
    have hwl5 : w.heap.size < (w5.drewN k).heap.size := by omega
    have hx6 := (hn6.block w.heap.size hwl5).trans (show (w5.drewN k).heap[w.heap.size]? = _ from hx5.out)
    have H6 := Lib.hid hbel6
    obtain ⟨g2, hg2⟩ : ∃ g2, g2 = (w5.drewN k).heap.size := ⟨_, rfl⟩
    rw [← hg2] at a3 ⊢
    have hgB2 : B ≤ g2 := by omega
    have hwl6 := World.block_lt_of_cell? _ _ (box8 hx6).1
    generalize (w5.drewN k).alloc (.cells #[.string (S.extract 0 c), .int .i64 0] 85) = w6 at *
    obtain ⟨c0, c1, c2, c3, c4, c5, c6, c7⟩ := box8 hx6
    clear hR6 hn6 hbel6 hx6 hg2 hb5k hsz5 hc hwl5
    go_wp2_with fail
    refine a3.mono ?_
    rintro e w7 ⟨rfl, h7, hb7⟩
    have a4 := at_any g2 (S.extract 0 c) 0 w7 h7
    have H7 := Lib.hid (H6.out.trans hb7)
    clear h7 hb7 a3 c0 c1 c2 c3 c4 c5 c6 c7
    go_wp2_with fail
    refine a4.mono ?_
    rintro e w' ⟨rfl, rfl⟩
    go_wp2
    go_ret
    exact ⟨rfl, HB1.out.trans (H7.out.mono (by omega))⟩
end Go.Proofs.YtnodjcapclkmhaaDoor
