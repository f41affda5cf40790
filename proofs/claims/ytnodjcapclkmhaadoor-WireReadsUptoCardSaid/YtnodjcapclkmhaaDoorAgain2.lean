/- again at lists and at no kind; again whole. -/
import Derived.Test.YtnodjcapclkmhaaDoorAgain
namespace Go.Proofs.YtnodjcapclkmhaaDoor
open Go.RowKit

theorem ownsT.sl {w : World} {b n c : Nat} {A : Option Addr} {L : List ByteArray} (h : ownsT w b (.slice A n c) L) : n = L.length ∧ (0 < L.length → ∃ k, A = some ⟨k, 0, none⟩ ∧ b ≤ k ∧ k < w.heap.size ∧ ∀ i, i < L.length → w.cell? ⟨k, i, none⟩ = some (.string (lf L i))) := by
  rcases h.2 with ⟨hv, h0⟩ | ⟨k, cap, cur, hv, hb, _⟩
  · cases hv
    exact ⟨h0.symm, fun h => absurd h (by omega)⟩
  · cases hv
    refine ⟨rfl, fun _ => ⟨k, rfl, hb, (World.ownsRow.lt h k rfl).2, fun i hi => ?_⟩⟩
    have hx : (L.map Value.string)[i]? = some (.string (lf L i)) := by
      rw [List.getElem?_map, List.getElem?_eq_getElem hi]
      unfold lf
      rw [List.getD_eq_getElem?_getD, List.getElem?_eq_getElem hi]; rfl
    have := World.ownsRow.cells h (g := k) rfl i _ hx
    rw [show (⟨k, 0, none⟩ : Addr).add i = ⟨k, i, none⟩ by unfold Addr.add; split <;> simp_all] at this
    exact this
theorem ownsT.txs {w : World} {b n c g : Nat} {A : Option Addr} {L : List ByteArray} (h : ownsT w b (.slice A n c) L) (hg : g < b) : Txs w A n (lf L) g none := by
  obtain ⟨rfl, h2⟩ := h.sl
  intro h0
  obtain ⟨k, rfl, hb, hk, hc⟩ := h2 h0
  exact ⟨k, 0, rfl, hk, by omega, by simp, fun i hi => by rw [Nat.zero_add]; exact hc i hi⟩

set_option maxRecDepth 100000 in
set_option maxHeartbeats 2000000 in
theorem again_7 (Bf : Nat → Addr) (B g h : Nat) (s : ByteArray) (p : Nat) (o : OpV) (w : World) (hE : EnvB B w Bf) (hg : B ≤ g) (hR : Rdr w g s p) (hW : Wri w B h [] none) (hgh : g ≠ h) (hp : p ≤ s.size) (hs : s.size ≤ 4398046511104) (ho : o.In) (hk : o.k = 7) :
    Calls Tryd.prog 29 #[.pointer (some ⟨g, 0, none⟩), .pointer (some ⟨h, 0, none⟩), o.val] w (AgPost B g h s p w) := by
  obtain ⟨k, sec, u, i, n, m, t, A, ln, lc, ss⟩ := o
  obtain ⟨hn, hm⟩ := ho
  simp only at hk hn hm
  subst hk
  unfold OpV.val
  simp only
  have hB := hE.lt
  have hh := hW.lt.1
  have hhl := hW.lt.2.1
  have hb := Below.new w (.cells #[.int .i64 7, .bool sec, .int .u64 u, .int .i64 i, .int .i64 n, .int .i64 m, .string t, .slice A ln lc] 30)
  have W0 := Lib.hid (hW.below hb)
  have HB0 := Lib.hid hb
  have hsz := hb.size
  have a1 := rTexts_any Bf B g s p n m _ (hE.below (hb.mono hB)) hg (hR.below hb) hp hs hn hm
  clear hb hW hE hR
  have HU := Lib.hid (fun L q (h : xsG s p n m = .ok (L, q)) => xsG_back h)
  generalize xsG s p n m = R at *
  go_enter Tryd.func29, Tryd.ntmps29
  go_wp2_with fail
  refine a1.mono ?_
  intro e w1 hx
  rcases hx with ⟨k, hk, hk3, he, h1, h2⟩ | ⟨L, q, v, hk, hq, hl, he, h1, h2, ho⟩
  · obtain ⟨c, hc⟩ : ∃ c, ev Bf k = .iface 123 (.pointer (some c)) := by rcases hk3 with rfl | rfl | rfl <;> exact ⟨_, rfl⟩
    rw [hc] at he
    subst he
    have hWr := (W0.out.other h2 (none_apart hgh)).1
    have H1 := Lib.hid h1; have H2 := Lib.hid h2; clear h1 h2 a1 hk hk3 hc HU
    have hnil : Txs w1 none 0 (fun _ => ⟨#[]⟩) h none := fun h => absurd h (Nat.lt_irrefl _)
    have hlen : ([] ++ textsL (fun _ => ⟨#[]⟩) 0).length ≤ 140737488355328 := by
      show (uvL 0 ++ []).length ≤ _
      rw [uvL_last (by decide)]; decide
    have a2 := texts_any B h [] none none 0 0 (fun _ => ⟨#[]⟩) w1 hWr hnil (by decide) hlen
    clear hnil hlen hWr
    go_wp2_with fail
    refine a2.mono ?_
    rintro e w2 ⟨rfl, r2, h3, h4⟩
    have H5 := Lib.hid (H1.out.wrote h4 hgh (by simp))
    have H6 := Lib.hid (below_two HB0.out H2.out h4 hB hg hh)
    clear h3 h4 a2
    go_wp2
    go_ret
    exact AgPost.bad rfl hp H5.out H6.out
  · obtain ⟨A2, c2, rfl⟩ := ho.form
    subst he
    have hWr := (W0.out.other h2 (none_apart hgh)).1
    obtain ⟨hbk, hpq, _⟩ := HU.out L q hk
    have hlen : ([] ++ textsL (lf L) L.length).length ≤ 140737488355328 := by
      unfold textsL
      rw [tsL_lf, hbk, List.nil_append, rng_length]; omega
    have HBK := Lib.hid (show [] ++ textsL (lf L) L.length = rng s p (q - p) by unfold textsL; rw [tsL_lf, hbk, List.nil_append])
    have hT := ho.txs (g := h) (by omega)
    have a2 := texts_any B h [] none A2 L.length c2 (lf L) w1 hWr hT (by omega) hlen
    have H1 := Lib.hid h1; have H2 := Lib.hid h2; clear h1 h2 a1 hk HU hbk hT hWr ho hlen
    go_wp2_with fail
    refine a2.mono ?_
    rintro e w2 ⟨rfl, r2, h3, h4⟩
    have H3 := Lib.hid h3
    have H5 := Lib.hid (H1.out.wrote h4 hgh (by simp))
    have H6 := Lib.hid (below_two HB0.out H2.out h4 hB hg hh)
    clear h3 h4 a2
    go_wp2
    go_ret
    exact AgPost.good rfl (by omega) hq H5.out H3.out HBK.out H6.out

set_option maxRecDepth 100000 in
set_option maxHeartbeats 2000000 in
theorem again_0 (Bf : Nat → Addr) (B g h : Nat) (s : ByteArray) (p : Nat) (o : OpV) (w : World) (hE : EnvB B w Bf) (hR : Rdr w g s p) (hp : p ≤ s.size) (hk : o.k < 1 ∨ 8 < o.k) :
    Calls Tryd.prog 29 #[.pointer (some ⟨g, 0, none⟩), .pointer (some ⟨h, 0, none⟩), o.val] w (AgPost B g h s p w) := by
  obtain ⟨k, sec, u, i, n, m, t, A, ln, lc, ss⟩ := o
  simp only at hk
  unfold OpV.val
  simp only
  have hB := hE.lt
  have hb := Below.new w (.cells #[.int .i64 k, .bool sec, .int .u64 u, .int .i64 i, .int .i64 n, .int .i64 m, .string t, .slice A ln lc] 30)
  have H1 := Lib.hid (hR.below hb)
  have H2 := Lib.hid (hb.mono hB)
  clear hb hR hE
  have k1 : (k == 1) = false := by simp; omega
  have k2 : (k == 2) = false := by simp; omega
  have k3 : (k == 3) = false := by simp; omega
  have k4 : (k == 4) = false := by simp; omega
  have k5 : (k == 5) = false := by simp; omega
  have k6 : (k == 6) = false := by simp; omega
  have k7 : (k == 7) = false := by simp; omega
  have k8 : (k == 8) = false := by simp; omega
  clear hk
  go_enter Tryd.func29, Tryd.ntmps29
  go_wp2
  go_ret
  exact AgPost.bad rfl hp H1.out H2.out

theorem again_any (Bf : Nat → Addr) (B g h : Nat) (s : ByteArray) (p : Nat) (o : OpV) (w : World) (hE : EnvB B w Bf) (hg : B ≤ g) (hR : Rdr w g s p) (hW : Wri w B h [] none) (hgh : g ≠ h) (hp : p ≤ s.size) (hs : s.size ≤ 4398046511104) (ho : o.In) :
    Calls Tryd.prog 29 #[.pointer (some ⟨g, 0, none⟩), .pointer (some ⟨h, 0, none⟩), o.val] w (AgPost B g h s p w) := by
  rcases (show o.k = 1 ∨ o.k = 2 ∨ o.k = 3 ∨ o.k = 4 ∨ o.k = 5 ∨ o.k = 6 ∨ o.k = 7 ∨ o.k = 8 ∨ (o.k < 1 ∨ 8 < o.k) by omega) with hk | hk | hk | hk | hk | hk | hk | hk | hk
  · exact again_1 Bf B g h s p o w hE hg hR hW hgh hp hs ho hk
  · exact again_2 Bf B g h s p o w hE hg hR hW hgh hp hs ho hk
  · exact again_3 Bf B g h s p o w hE hg hR hW hgh hp hs ho hk
  · exact again_4 Bf B g h s p o w hE hg hR hW hgh hp hs ho hk
  · exact again_5 Bf B g h s p o w hE hg hR hW hgh hp hs ho hk
  · exact again_6 Bf B g h s p o w hE hg hR hW hgh hp hs ho hk
  · exact again_7 Bf B g h s p o w hE hg hR hW hgh hp hs ho hk
  · exact again_8 Bf B g h s p o w hE hg hR hW hgh hp hs ho hk
  · exact again_0 Bf B g h s p o w hE hR hp hk
end Go.Proofs.YtnodjcapclkmhaaDoor
