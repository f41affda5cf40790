/- reads at a list; reads whole. -/
import Derived.Test.YtnodjcapclkmhaaDoorReadsK2
import Derived.Deep.RegionWith
namespace Go.Proofs.YtnodjcapclkmhaaDoor
open Go.RowKit

def ml (ss : Nat → ByteArray) (n : Nat) : List ByteArray := (List.range n).map ss
theorem ml_length (ss : Nat → ByteArray) (n : Nat) : (ml ss n).length = n := by unfold ml; rw [List.length_map, List.length_range]
theorem ml_at (ss : Nat → ByteArray) (n i : Nat) (h : i < n) : lf (ml ss n) i = ss i := by
  unfold lf ml
  rw [List.getD_eq_getElem?_getD, List.getElem?_map, List.getElem?_range h]
  rfl
theorem tsLL_ml (ss : Nat → ByteArray) : ∀ n, tsLL (ml ss n) = tsL ss n
  | 0 => rfl
  | n + 1 => by
    unfold ml
    rw [List.range_succ, List.map_append, tsLL_app]
    show tsLL (ml ss n) ++ (textL (ss n) ++ []) = tsL ss n ++ textL (ss n)
    rw [tsLL_ml ss n, List.append_nil]
theorem mem_ml {ss : Nat → ByteArray} {n : Nat} {t : ByteArray} (h : t ∈ ml ss n) : ∃ i, i < n ∧ t = ss i := by
  unfold ml at h
  obtain ⟨i, hi, rfl⟩ := List.mem_map.1 h
  exact ⟨i, List.mem_range.1 hi, rfl⟩
theorem owns_sl {w : World} {b n c : Nat} {A : Option Addr} {ss : Nat → ByteArray} {k : Nat} (h : ownsT w b (.slice A k c) (ml ss n)) : Sl w A n (fun i => .string (ss i)) := by
  obtain ⟨_, h2⟩ := h.sl
  intro h0
  obtain ⟨k, rfl, hb, hk, hc⟩ := h2 (by rw [ml_length]; exact h0)
  exact ⟨k, 0, rfl, hk, fun i hi => by rw [Nat.zero_add, hc i (by rw [ml_length]; exact hi), ml_at ss n i hi]⟩
theorem Sl.wrote {w w' : World} {A : Option Addr} {n g : Nat} {f : Nat → Value} (h : Sl w A n f) (hw : Wrote w w' g none none) (hA : 0 < n → ∀ a, A = some a → a.block ≠ g) : Sl w' A n f := by
  intro h0
  obtain ⟨b, o, rfl, hb, hc⟩ := h h0
  have hne := hA h0 _ rfl
  exact ⟨b, o, rfl, Nat.lt_of_lt_of_le hb hw.size, fun i hi => (hw.cell (p := ⟨b, o + i, none⟩) hb hne (by simp)).trans (hc i hi)⟩

theorem Wrote.undrew {w w' : World} {g : Nat} {r r' : Option Nat} (h : Wrote w.drew w' g r r') : Wrote w w' g r r' := ⟨h.os, h.tape, h.output, h.size, h.block, h.row⟩
theorem XRes.read {B : Nat → Addr} {g p q : Nat} {s : ByteArray} {M : List ByteArray} {w w' : World} {e : Ending} (h : XRes B g s p (.ok (M, q)) w e w') : ∃ A2 c2, e = .returned (.tuple #[.slice A2 M.length c2, .nilIface]) ∧ Rdr w' g s q ∧ Wrote w w' g none none ∧ ownsT w' w.heap.size (.slice A2 M.length c2) M := by
  rcases h with ⟨k, hk, _⟩ | ⟨L, q', v, hk, _, _, he, hr, hw, ho⟩
  · cases hk
  · obtain ⟨rfl, rfl⟩ := Prod.mk.inj (Except.ok.inj hk)
    obtain ⟨A2, c2, rfl⟩ := ho.form
    exact ⟨A2, c2, he, hr, hw, ho⟩

set_option maxRecDepth 100000 in
set_option maxHeartbeats 4000000 in
theorem reads_7 (Bf : Nat → Addr) (B g : Nat) (s : ByteArray) (p : Nat) (o : OpV) (w : World) (hE : EnvB B w Bf) (hg : B ≤ g) (hR : Rdr w g s p) (hp : p ≤ s.size) (hs : s.size ≤ 4398046511104) (hk : o.k = 7) (hP : Pre s p (textsL o.ss o.ln))
    (hA : Tv w o.A o.ln o.lc o.ss) (hAb : 0 < o.ln → ∀ a, o.A = some a → a.block < B) (hln : o.ln ≤ 4000000000) (hz : ∀ i, i < o.ln → (o.ss i).size ≤ 4398046511104) :
    Calls Tryd.prog 28 #[.pointer (some ⟨g, 0, none⟩), o.val] w (RdPost B g s (p + (textsL o.ss o.ln).length) w) := by
  obtain ⟨k, sec, u, i, n, m, t, A, ln, lc, ss⟩ := o
  simp only at hk hP hA hAb hln hz ⊢
  subst hk
  unfold OpV.val
  simp only
  have hB := hE.lt
  have hgl := hR.cells.2.2.2
  have hb := Below.new w (.cells #[.int .i64 7, .bool sec, .int .u64 u, .int .i64 i, .int .i64 n, .int .i64 m, .string t, .slice A ln lc] 30)
  have HB0 := Lib.hid hb
  have HX := Lib.hid (box_cells w (.int .i64 7) (.bool sec) (.int .u64 u) (.int .i64 i) (.int .i64 n) (.int .i64 m) (.string t) (.slice A ln lc))
  have hlg : lng ss ln ≤ 4398046511104 := lng_le ln hz
  have hP2 : Pre s p (uvL (ml ss ln).length ++ tsLL (ml ss ln)) := by rw [ml_length, tsLL_ml]; exact hP
  have hxs : xsG s p ln (lng ss ln) = .ok (ml ss ln, p + (textsL ss ln).length) := by
    rw [xsG_read hP2 (by rw [ml_length]; exact Int.le_refl _) (by rw [ml_length]; omega) (fun t ht => by
      obtain ⟨i, hi, rfl⟩ := mem_ml ht
      have := lng_at ln i hi (ss := ss)
      have := hz i hi
      omega), ml_length, tsLL_ml]
    rfl
  have hSl := hA.2
  have hS0 : Sl (w.alloc (.cells #[.int .i64 7, .bool sec, .int .u64 u, .int .i64 i, .int .i64 n, .int .i64 m, .string t, .slice A ln lc] 30)) A ln (fun i => .string (ss i)) := hSl.below (fun h a e => Nat.lt_of_lt_of_le (hAb h a e) hB) hb
  have a0 := longest_any A ln lc ss (w.alloc (.cells #[.int .i64 7, .bool sec, .int .u64 u, .int .i64 i, .int .i64 n, .int .i64 m, .string t, .slice A ln lc] 30)).drew (by omega) (fun i hi => by have := hz i hi; omega) hS0
  have a1 := rTexts_any Bf B g s p ln (lng ss ln) (w.alloc (.cells #[.int .i64 7, .bool sec, .int .u64 u, .int .i64 i, .int .i64 n, .int .i64 m, .string t, .slice A ln lc] 30)).drew (hE.below ((hb.mono hB).trans (below_drewN (Below.refl _ _) 1))) hg ((hR.below hb).drewN 1) hp hs (by omega) (by omega)
  rw [hxs] at a1
  replace a1 := a1.mono fun _ _ h => h.read
  rw [ml_length] at a1
  have HS0 := Lib.hid hS0
  have HAb := Lib.hid hAb
  generalize p + (textsL ss ln).length = q at *
  generalize lng ss ln = l at *
  clear hb hE hR hP hP2 hxs hSl hS0 hA hAb hz
  go_enter Tryd.func28, Tryd.ntmps28
  go_wp2_with fail
  go_region_with ((first | (go_at_call 19; refine a0.mono ?_; rintro e w' ⟨rfl, rfl⟩) | (go_at_call 18; refine a1.mono ?_; rintro e w1 ⟨A2, c2, rfl, h1, h2, h3⟩)))
  all_goals
    replace h2 := Wrote.undrew h2
    obtain ⟨x2, x3, x6, x7⟩ := box_kept HX.out h2 (by omega) (by simp)
    have a5 := same_any A2 A ln c2 lc ss w1 (by omega) (owns_sl h3) (Sl.wrote HS0.out h2 (fun h a e => by have := HAb.out h a e; omega))
    have H1 := Lib.hid h1; have H2 := Lib.hid (rd_below HB0.out h2 hB hg); clear h1 h2 h3 a1 a0
    go_wp2_with fail
    refine a5.mono ?_
    rintro e w' ⟨rfl, k, rfl⟩
    go_wp2
    go_ret
    exact ⟨rfl, H1.out.drewN k, below_drewN H2.out k⟩

/-- reads, whatever the kind. -/
theorem reads_any (Bf : Nat → Addr) (B g : Nat) (s : ByteArray) (p : Nat) (o : OpV) (w : World) (hE : EnvB B w Bf) (hg : B ≤ g) (hR : Rdr w g s p) (hp : p ≤ s.size) (hs : s.size ≤ 4398046511104) (ho : o.Ok) (hk : okK o = true) (hP : Pre s p (putL o))
    (hA : Tv w o.A o.ln o.lc o.ss) (hAb : 0 < o.ln → ∀ a, o.A = some a → a.block < B) (hln : o.ln ≤ 4000000000) (hz : ∀ i, i < o.ln → (o.ss i).size ≤ 4398046511104) :
    Calls Tryd.prog 28 #[.pointer (some ⟨g, 0, none⟩), o.val] w (RdPost B g s (p + (putL o).length) w) := by
  have hk8 : 1 ≤ o.k ∧ o.k ≤ 8 := by unfold okK at hk; simpa using hk
  rcases (show o.k = 1 ∨ o.k = 2 ∨ o.k = 3 ∨ o.k = 4 ∨ o.k = 5 ∨ o.k = 6 ∨ o.k = 7 ∨ o.k = 8 by omega) with hk | hk | hk | hk | hk | hk | hk | hk
  · have e : putL o = uvL o.u := by unfold putL; simp [hk]
    rw [e] at hP ⊢; exact reads_1 Bf B g s p o w hE hg hR hp hs ho hk hP
  · have e : putL o = uvL (zig o.i) := by unfold putL; simp [hk]
    rw [e] at hP ⊢; exact reads_2 Bf B g s p o w hE hg hR hp hs ho hk hP
  · have e : putL o = lowL o.u 8 := by unfold putL; simp [hk]
    rw [e] at hP ⊢; exact reads_3 Bf B g s p o w hE hg hR hp hs ho hk hP
  · have e : putL o = lowL o.u 1 := by unfold putL; simp [hk]
    rw [e] at hP ⊢; exact reads_4 Bf B g s p o w hE hg hR hp hs ho hk hP
  · have e : putL o = lowL (fbits (o.u % 4294967296)) 4 := by unfold putL; simp [hk]
    rw [e] at hP ⊢; exact reads_5 Bf B g s p o w hE hg hR hp hs ho hk hP
  · have e : putL o = textL o.s := by unfold putL; simp [hk]
    rw [e] at hP ⊢; exact reads_6 Bf B g s p o w hE hg hR hp hs ho hk hP
  · have e : putL o = textsL o.ss o.ln := by unfold putL; simp [hk]
    rw [e] at hP ⊢; exact reads_7 Bf B g s p o w hE hg hR hp hs hk hP hA hAb hln hz
  · have e : putL o = uvL o.u := by unfold putL; simp [hk]
    rw [e] at hP ⊢; exact reads_8 Bf B g s p o w hE hg hR hp hs ho hk hP
end Go.Proofs.YtnodjcapclkmhaaDoor
