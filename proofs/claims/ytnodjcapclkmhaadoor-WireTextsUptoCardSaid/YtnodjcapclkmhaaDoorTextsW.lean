/- WireTexts, walked: whatever the list, the law answers true. -/
import Derived.Test.YtnodjcapclkmhaaDoorLists
import Derived.Test.YtnodjcapclkmhaaDoorShortW
import Derived.Test.YtnodjcapclkmhaaDoorRowO
namespace Go.Proofs.YtnodjcapclkmhaaDoor
open Go.RowKit

abbrev oth : ByteArray := ⟨#[111, 116, 104, 101, 114]⟩
theorem txs_ml (ss : Nat → ByteArray) : ∀ n, txs ss n = (ml ss n).map Value.string
  | 0 => rfl
  | n + 1 => by
    unfold txs ml
    rw [List.range_succ, List.map_append, List.map_append, txs_ml ss n]
    rfl
theorem spare_owns {w : World} {G k : Nat} {f : Nat → ByteArray} (h : w.ownsRow G 9 1 (.slice (some ⟨G, 0, none⟩) k k) k (txs f k)) : ownsT w G (.slice (some ⟨G, 0, none⟩) k k) (ml f k) := by
  unfold ownsT
  rw [ml_length, ← txs_ml]
  exact h
theorem ml_const (t : ByteArray) (n : Nat) : ml (fun _ => t) n = List.replicate n t := by
  unfold ml
  rw [List.map_const', List.length_range]
theorem lf_rep {t : ByteArray} {n i : Nat} (h : i < n) : lf (List.replicate n t) i = t := by
  unfold lf
  rw [List.getD_eq_getElem?_getD, List.getElem?_replicate, if_pos h]; rfl
theorem oth_text : textL oth = [5, 111, 116, 104, 101, 114] := by
  unfold textL
  rw [show oth.size = 5 from rfl, uvL_last (by decide)]
  rfl
theorem oth_len : ∀ n, (tsL (fun _ => oth) n).length = n * 6
  | 0 => rfl
  | n + 1 => by
    show (tsL (fun _ => oth) n ++ textL oth).length = _
    rw [List.length_append, oth_len n, oth_text]
    show n * 6 + 6 = _
    omega
theorem byteL_texts (ss : Nat → ByteArray) (n : Nat) : byteL (textsL ss n) := byteL_app (byteL_uv _) (byteL_ts _ _)
theorem pre_texts (ss : Nat → ByteArray) (n : Nat) : Pre (strOfNums (textsL ss n)) 0 (uvL (ml ss n).length ++ tsLL (ml ss n)) := by
  rw [ml_length, tsLL_ml]
  exact ⟨by rw [strOfNums_size]; unfold textsL; omega, rng_str (byteL_texts ss n)⟩
theorem xsG_texts (ss : Nat → ByteArray) (n : Nat) (m : Int) (hn : n < 4000000000) (hm : ∀ i, i < n → ((ss i).size : Int) ≤ m ∧ (ss i).size < 18446744073709551616) : xsG (strOfNums (textsL ss n)) 0 n m = .ok (ml ss n, (textsL ss n).length) := by
  have h := xsG_read (c := n) (m := m) (pre_texts ss n) (by rw [ml_length]; exact Int.le_refl _) (by rw [ml_length]; omega) (fun t ht => by
    obtain ⟨i, hi, rfl⟩ := mem_ml ht
    exact hm i hi)
  rw [h, ml_length, tsLL_ml, Nat.zero_add]
  rfl
theorem own_txs {w : World} {G n m c k : Nat} {f : Nat → ByteArray} {L : List ByteArray} (h : ownsT w G (.slice (some ⟨G, 0, none⟩) m c) L) (hn : n ≤ L.length) (hf : ∀ i, i < n → lf L i = f i) (hG : G ≠ k) : Txs w (some ⟨G, 0, none⟩) n f k none := by
  intro h0
  obtain ⟨_, h2⟩ := h.sl
  obtain ⟨b, e, hb, hk, hc⟩ := h2 (by omega)
  obtain rfl : G = b := by simpa using e
  exact ⟨G, 0, rfl, hk, hG, by simp, fun i hi => by rw [Nat.zero_add, hc i (by omega), hf i hi]⟩

/-- The two Writers and the list that is handed in. -/
structure Tx (G N n : Nat) (w wr : World) (a b : List Int) (ra rb : Option Nat) (L : List ByteArray) : Prop where
  fa : Buf wr N N 71 5 a ra
  fb : Buf wr N (N + 1) 71 5 b rb
  ap : Apart N ra (N + 1) rb
  full : ownsT wr G (.slice (some ⟨G, 0, none⟩) (n + 80) (n + 80)) L
  low : w.heap.size ≤ G ∧ G < N
  bel : Below w.heap.size w wr
section
variable {G N n : Nat} {w wr w' : World} {a b xs : List Int} {ra rb r : Option Nat} {L L' : List ByteArray}
theorem Tx.size (h : Tx G N n w wr a b ra rb L) : w.heap.size ≤ wr.heap.size ∧ N + 1 < wr.heap.size := ⟨h.bel.size, h.fb.lt.2.1⟩
theorem Tx.below (h : Tx G N n w wr a b ra rb L) (hb : Below wr.heap.size wr w') : Tx G N n w w' a b ra rb L :=
  ⟨h.fa.below hb, h.fb.below hb, h.ap, h.full.kept (b := none) ⟨hb.os, hb.tape, hb.output, hb.size, fun k hk _ => hb.block k hk⟩ (.inr (by show some G ≠ none; simp)), h.low, h.bel.trans (hb.mono h.size.1)⟩
theorem Tx.full_wrote {g : Nat} {q : Option Nat} (h : Tx G N n w wr a b ra rb L) (hw : Wrote wr w' g q r) (hg : G ≠ g) (hq : q ≠ some G) : ownsT w' G (.slice (some ⟨G, 0, none⟩) (n + 80) (n + 80)) L := by
  refine ⟨h.full.1, ?_⟩
  rcases h.full.2 with hn | ⟨k, cap, cur, hv, hb, hk, rest⟩
  · exact .inl hn
  · obtain rfl : G = k := Option.some.inj (congrArg Value.ownBlock hv)
    exact .inr ⟨G, cap, cur, hv, hb, (hw.block G (World.ownsRow.lt h.full G rfl).2 hg (fun e => hq e.symm)).trans hk, rest⟩
theorem Tx.wa (h : Tx G N n w wr a b ra rb L) (k : Buf w' N N 71 5 xs r) (hw : Wrote wr w' N ra r) : Tx G N n w w' xs b r rb L := by
  obtain ⟨b1, b2⟩ := h.fb.other hw h.ap
  have hl := h.fa.lt
  have h0 := h.low
  exact ⟨k, b1, b2, h.full_wrote hw (by omega) (fun e => by have := (hl.2.2 G e).1; omega), h.low, h.bel.trans (hw.below h.size.1 (by omega) (fun k e => by have := (hl.2.2 k e).1; omega))⟩
theorem Tx.wb (h : Tx G N n w wr a b ra rb L) (k : Buf w' N (N + 1) 71 5 xs r) (hw : Wrote wr w' (N + 1) rb r) : Tx G N n w w' a xs ra r L := by
  obtain ⟨a1, a2⟩ := h.fa.other hw h.ap.symm
  have hl := h.fb.lt
  have h0 := h.low
  exact ⟨a1, k, a2.symm, h.full_wrote hw (by omega) (fun e => by have := (hl.2.2 G e).1; omega), h.low, h.bel.trans (hw.below h.size.1 (by omega) (fun k e => by have := (hl.2.2 k e).1; omega))⟩
theorem Tx.txs {f : Nat → ByteArray} {m k : Nat} (h : Tx G N n w wr a b ra rb L) (hm : m ≤ L.length) (hf : ∀ i, i < m → lf L i = f i) (hk : N ≤ k) (hr : r ≠ some G) : Txs wr (some ⟨G, 0, none⟩) m f k r := by
  intro h0
  obtain ⟨_, h2⟩ := h.full.sl
  obtain ⟨q, e, hb, hq, hc⟩ := h2 (by omega)
  obtain rfl : G = q := by simpa using e
  have := h.low
  exact ⟨G, 0, rfl, hq, by omega, fun e => hr e.symm, fun i hi => by rw [Nat.zero_add, hc i (by omega), hf i hi]⟩
theorem Tx.set {i : Nat} (h : Tx G N n w wr a b ra rb L) (hl : L.length = n + 80) (hi : i < n + 80) (ht : L.take i = List.replicate i oth) :
    (∃ u, wr.cell? ⟨G, i, none⟩ = some u) ∧ wr.frozen? ⟨G, i, none⟩ = false ∧ ∃ L', L'.length = n + 80 ∧ L'.take (i + 1) = List.replicate (i + 1) oth ∧ Tx G N n w (wr.setCell ⟨G, i, none⟩ (.string oth)) a b ra rb L' := by
  obtain ⟨c1, c2⟩ := h.full.cellf (j := i) (by omega)
  have h0 := h.low
  have hg := setCell_grown wr G i (.string oth)
  refine ⟨⟨_, c1⟩, c2, L.set i oth, by rw [List.length_set, hl], ?_, ?_⟩
  · rw [List.take_succ_eq_append_getElem (by rw [List.length_set]; omega), List.getElem_set_self, List.take_set_of_le (Nat.le_refl _), ht, List.replicate_succ']
  · refine ⟨h.fa.grown hg (by simp; omega) (.inr (fun e => by have := (h.fa.lt.2.2 G e.symm).1; omega)), h.fb.grown hg (by simp; omega) (.inr (fun e => by have := (h.fb.lt.2.2 G e.symm).1; omega)), h.ap, h.full.set (by omega) _, h.low, h.bel.setCell h0.1 _⟩
end

/-- Between the rounds of the second loop. -/
def Got (B n k : Nat) (ss : Nat → ByteArray) (w wr : World) (v : Value) : Prop := ∃ V L, Lists wr B v k V L ∧ (∀ i, i < k → L i = ml ss n) ∧ Below B w wr
theorem Got.next {B n k g : Nat} {ss : Nat → ByteArray} {w wr w1 w2 : World} {v x : Value} {s : ByteArray} (h : Got B n k ss w wr v) (hB : B ≤ wr.heap.size) (hb : Below wr.heap.size wr w1) (hg : wr.heap.size ≤ g) (hR : Rdr w1 g s 0) (hw : Wrote w1 w2 g none none) (hx : ownsT w2 w1.heap.size x (ml ss n)) :
    ∃ V L, Lists w2 B v k V L ∧ ownsT w2 B x (ml ss n) ∧ (∀ i, i < k → ∀ q, x.ownBlock = some q → (V i).ownBlock ≠ some q) ∧ (∀ q, x.ownBlock = some q → v.ownBlock ≠ some q) ∧ Below B w w2 ∧ (∀ i, i < k → L i = ml ss n) := by
  obtain ⟨V, L, hl, hL, hbw⟩ := h
  have hq : ∀ q, x.ownBlock = some q → w1.heap.size ≤ q := fun q e => (World.ownsRow.lt hx q e).1
  have hs := hb.size
  refine ⟨V, L, (hl.below hb).wrote hw hR (by decide) (by decide), hx.mono (by omega), fun i hi q e e2 => ?_, fun q e e2 => ?_, (hbw.trans (hb.mono hB)).trans (hw.below (by omega) (by omega) (fun k h => by cases h)), hL⟩
  · have := (hl.lt.2 i q hi e2).2; have := hq q e; omega
  · have := (hl.lt.1 q e2).2; have := hq q e; omega

set_option maxRecDepth 100000 in
set_option maxHeartbeats 4000000 in
theorem texts_walk (Bf : Nat → Addr) (A : Option Addr) (n c : Nat) (ss : Nat → ByteArray) (w : World) (hE : Env w Bf) (hA : Tv w A n c ss) (hAb : 0 < n → ∀ a, A = some a → a.block < w.heap.size) (hn : n ≤ 4000000) (hz : ∀ i, i < n → (ss i).size ≤ 4000000) (hl : (textsL ss n).length ≤ 100000000) :
    Calls Tryd.prog 4 #[.slice A n c] w fun e w' => e = .returned (.bool true) ∧ Below w.heap.size w w' := by
  have HE := Lib.hid hE; have HA := Lib.hid hA; have HAb := Lib.hid hAb; have HZ := Lib.hid hz; have HL := Lib.hid hl; clear hE hA hAb hz hl
  have HSA := Lib.hid (show ∀ wr, Below w.heap.size w wr → Sl wr A n (fun i => .string (ss i)) from fun wr hb => HA.out.2.below HAb.out hb)
  go_enter Tryd.func4, Tryd.ntmps4
  go_wp2_with fail
  refine (fixed_fact Bf _ HE.out).mono ?_
  rintro e w0 ⟨rfl, hb0⟩
  have hsz0 := hb0.size
  have a1 := spare_any A n c ss w0 ⟨HA.out.1, HSA.out w0 hb0⟩ (by omega)
  have HB0 := Lib.hid hb0
  clear hb0
  obtain ⟨G, hG⟩ : ∃ G, G = w0.heap.size := ⟨_, rfl⟩
  rw [← hG] at a1 hsz0
  go_wp2_with fail
  refine a1.mono ?_
  clear a1
  rintro e w1 ⟨rfl, ho1, hb1⟩
  have hfull := spare_owns ho1
  have hGl : G < w1.heap.size := (World.ownsRow.lt ho1 G rfl).2
  have hb1' := HB0.out.trans (hb1.mono hsz0)
  have F0 := new_buf w1 w1.heap.size 71 5 (Nat.le_refl _)
  have z1 : (w1.alloc (.cells #[.slice none 0 0] 71)).heap.size = w1.heap.size + 1 := by simp
  have F1 := new_buf (w1.alloc (.cells #[.slice none 0 0] 71)) w1.heap.size 71 5 (by omega)
  have n1 := Below.new w1 (.cells #[.slice none 0 0] 71)
  have n2 := Below.new (w1.alloc (.cells #[.slice none 0 0] 71)) (.cells #[.slice none 0 0] 71)
  rw [z1] at F1
  have n3 : Below w1.heap.size w1 ((w1.alloc (.cells #[.slice none 0 0] 71)).alloc (.cells #[.slice none 0 0] 71)) := n1.trans (n2.mono (by omega))
  have T0 : Tx G w1.heap.size n w ((w1.alloc (.cells #[.slice none 0 0] 71)).alloc (.cells #[.slice none 0 0] 71)) [] [] none none (ml (spare ss n) (n + 80)) :=
    ⟨F0.below n2, F1, ⟨by omega, (fun e => by cases e), (fun e => by cases e), .inl rfl⟩, World.ownsRow.alloc (World.ownsRow.alloc hfull _) _, ⟨hsz0, hGl⟩, hb1'.trans (n3.mono (by omega))⟩
  have HT0 := Lib.hid T0
  clear ho1 hb1 hG hfull F0 F1 n1 n2 n3 z1 T0 hb1'
  go_wp2_with fail
  refine (new_any _).mono ?_
  rintro e w' ⟨rfl, rfl⟩
  go_wp2_with fail
  refine (new_any _).mono ?_
  rintro e w' ⟨rfl, rfl⟩
  obtain ⟨N, hN⟩ : ∃ N, N = w1.heap.size := ⟨_, rfl⟩
  rw [← hN] at HT0 hGl ⊢
  have HN := Lib.hid hN
  clear hN
  generalize (w1.alloc (.cells #[.slice none 0 0] 71)).alloc (.cells #[.slice none 0 0] 71) = w3 at *
  have a1 := texts_any N N [] none (some ⟨G, 0, none⟩) n (n + 80) ss w3 HT0.out.fa (HT0.out.txs (by rw [ml_length]; omega) (fun i hi => by rw [ml_at _ _ i (by omega)]; unfold spare; rw [if_pos hi]) (Nat.le_refl _) (by simp)) (by omega) (by rw [List.nil_append]; have := HL.out; omega)
  rw [List.nil_append] at a1
  go_wp2_with fail
  rw [← HN.out]
  refine a1.mono ?_
  clear a1
  rintro e w4 ⟨rfl, ra, h1, h2⟩
  have HT1 := Lib.hid (HT0.out.wa h1 h2)
  clear h1 h2
  have a1 := kept_any G A n c ss w4 (by omega) (World.ownsRow.lt HT1.out.full G rfl).2 (fun i hi => by
    have := (HT1.out.full.cellf (j := i) (by rw [ml_length]; exact hi)).1
    rw [this, ml_at _ _ i hi]) (HSA.out w4 HT1.out.bel)
  go_wp2_with fail
  refine a1.mono ?_
  clear a1
  rintro e w5 ⟨rfl, hb5⟩
  have HT2 := Lib.hid (HT1.out.below hb5)
  clear hb5
  have a1 := out_any N N _ ra w5 HT2.out.fa
  have hxs := xsG_texts ss n (lng ss n) (by omega) (fun i hi => ⟨by have := lng_at (ss := ss) n i hi; omega, by have := HZ.out i hi; omega⟩)
  have hss : (strOfNums (textsL ss n)).size ≤ 100000000 := by rw [strOfNums_size]; exact HL.out
  generalize textsL ss n = tl at *
  obtain ⟨S, hS⟩ : ∃ S, S = strOfNums tl := ⟨_, rfl⟩
  rw [← hS] at a1 hxs hss
  have HXS := Lib.hid hxs; have HS := Lib.hid hS
  clear hxs hS
  go_wp2_with fail
  refine a1.mono ?_
  clear a1
  rintro e w' ⟨rfl, rfl⟩
  go_wp2_with fail
  go_loopw [47, 8] (fun vi _ wr => ∃ i : Nat, vi = .int .i64 i ∧ i ≤ n + 80 ∧ Hid (∃ L, L.length = n + 80 ∧ L.take i = List.replicate i oth ∧ Tx G N n w wr tl [] ra none L)) (fun vi _ _ => n + 80 - (intOf vi).toNat)
  case atStart => exact ⟨0, rfl, Nat.zero_le _, _, ml_length _ _, rfl, HT2.out⟩
  case round =>
    obtain ⟨i, rfl, hi, hh⟩ := hrel
    by_cases h : i < n + 80
    · obtain ⟨L, hL, ht, hT⟩ := hh.out
      obtain ⟨⟨u, hc⟩, hfz, L', hL', ht', hT'⟩ := hT.set hL h ht
      have HX := Lib.hid hT'
      have HT' := Lib.hid ht'; have HL' := Lib.hid hL'
      clear hT hT' ht ht' hL hL' hh
      go_wp2
      go_roundw
      case rel => exact ⟨i + 1, by go_num, by omega, L', HL'.out, HT'.out, HX.out⟩
      case measure => simp [intOf]; omega
    · obtain rfl : i = n + 80 := by omega
      obtain ⟨L, hL, ht, hT⟩ := hh.out
      rw [← hL, List.take_length] at ht
      rw [hL] at ht
      subst ht
      have HT3 := Lib.hid hT
      clear hT hL hh
      have hol : (textsL (fun _ => oth) n).length ≤ 100000000 := by
        unfold textsL
        rw [List.length_append, oth_len]
        have := uv_len10 (show n < 18446744073709551616 by omega)
        omega
      have a1 := texts_any N (N + 1) [] none (some ⟨G, 0, none⟩) n (n + 80) (fun _ => oth) _ HT3.out.fb (HT3.out.txs (by rw [List.length_replicate]; omega) (fun i hi => lf_rep (by omega)) (by omega) (by simp)) (by omega) (by rw [List.nil_append]; omega)
      rw [List.nil_append] at a1
      have hxo := xsG_texts (fun _ => oth) n 5 (by omega) (fun i hi => ⟨by decide, by decide⟩)
      have hso : (strOfNums (textsL (fun _ => oth) n)).size ≤ 100000000 := by rw [strOfNums_size]; exact hol
      rw [ml_const] at hxo
      generalize textsL (fun _ => oth) n = tl2 at *
      have HXO := Lib.hid hxo; have HSO := Lib.hid hso
      clear hol hxo hso
      go_wp2_with fail
      refine a1.mono ?_
      clear a1
      rintro e w6 ⟨rfl, rb, h1, h2⟩
      have HT4 := Lib.hid (HT3.out.wb h1 h2)
      clear h1 h2
      have a1 := out_any N N _ ra w6 HT4.out.fa
      rw [← HS.out] at a1
      go_wp2_with fail
      refine a1.mono ?_
      clear a1
      rintro e w' ⟨rfl, rfl⟩
      have hsz6 := HT4.out.size
      have HEB := Lib.hid HE.out.base
      go_wp2_with fail
      go_loopw [10, 9, 11, 12, 13] (fun vk vl _ _ _ wr => ∃ k : Nat, vk = .int .i64 k ∧ k ≤ 3 ∧ Hid (Got w6.heap.size n k ss w6 wr vl)) (fun vk _ _ _ _ _ => 3 - (intOf vk).toNat)
      case atStart => exact ⟨0, rfl, by omega, (fun _ => .slice none 0 0), (fun _ => []), Lists.none _ _ _ _, (fun i hi => absurd hi (Nat.not_lt_zero _)), Below.refl _ _⟩
      case round =>
        obtain ⟨k, rfl, hk, hh⟩ := hrel
        have hbg : Below w6.heap.size w6 wr := by obtain ⟨_, _, _, _, hb⟩ := hh.out; exact hb
        have hsw := hbg.size
        have hbw := HT4.out.bel.trans (hbg.mono hsz6.1)
        cases t : decide ((k : Int) < 3) with
        | true =>
          have t' := of_decide_eq_true t
          have hnb := Below.new wr (.cells #[.string S, .int .i64 0] 85)
          have hR := new_rdr wr S
          have hb2 := hbw.trans (hnb.mono (by omega))
          have hlg : lng ss n ≤ 4000000 := lng_le n HZ.out
          have a0 := longest_any A n c ss (wr.alloc (.cells #[.string S, .int .i64 0] 85)) (by omega) (fun i hi => by have := HZ.out i hi; omega) (HSA.out _ hb2)
          have a1 := rTexts_any Bf w.heap.size wr.heap.size S 0 n (lng ss n) (wr.alloc (.cells #[.string S, .int .i64 0] 85)) (HEB.out.below hb2) (by omega) hR (Nat.zero_le _) (by omega) (by omega) (by omega)
          rw [HXS.out] at a1
          replace a1 := a1.mono fun _ _ h => h.read
          rw [ml_length] at a1
          have HNB := Lib.hid hnb; have HR := Lib.hid hR
          generalize lng ss n = l at *
          clear hnb hR hb2 hbg
          go_wp2_with fail
          refine (read_any S _).mono ?_
          rintro e w' ⟨rfl, rfl⟩
          go_wp2_with fail
          refine a0.mono ?_
          rintro e w' ⟨rfl, rfl⟩
          go_wp2_with fail
          refine a1.mono ?_
          clear a1 a0
          rintro e w8 ⟨A2, c2, rfl, h1, h2, h3⟩
          obtain ⟨V, L, hLs, hx, hnew, hvx, hb8, hLL⟩ := Got.next hh.out hsw HNB.out (Nat.le_refl _) HR.out h2 h3
          have a5 := same_any A2 A n c2 c ss w8 (by omega) (owns_sl hx) (HSA.out w8 (HT4.out.bel.trans (hb8.mono hsz6.1)))
          obtain ⟨A3, c3, rfl⟩ := hLs.form
          have hs8 := hb8.size
          have HLS := Lib.hid hLs; have HX := Lib.hid hx; have HNEW := Lib.hid hnew; have HVX := Lib.hid hvx; have HB8 := Lib.hid hb8; have HLL := Lib.hid hLL
          clear h1 h2 h3 hLs hx hnew hvx hb8 hLL hh
          go_wp2_with fail
          refine a5.mono ?_
          clear a5
          rintro e w' ⟨rfl, j, rfl⟩
          have hd := below_drewN (Below.refl w8.heap.size w8) j
          have HD := Lib.hid hd
          have hl9 := HLS.out.below hd
          have hx9 : ownsT (w8.drewN j) w6.heap.size (.slice A2 n c2) (ml ss n) := HX.out
          have HL9 := Lib.hid hl9; have HX9 := Lib.hid hx9
          clear hd hl9 hx9
          go_wp2_with (first | (at_builtin; refine append_list rfl _ _ rfl w6.heap.size k (.slice A3 k c3) (.slice A2 n c2) V L (ml ss n) rfl HL9.out HX9.out HNEW.out HVX.out rfl (by omega) hs8 ?_))
          intro g cap w9 hl9 hg9 hat9
          have HB9 := Lib.hid (below_grown (HB8.out.trans (HD.out.mono hs8)) hs8 hg9 (fun q e => (HL9.out.lt.1 q e).1))
          have HL9 := Lib.hid hl9
          clear hl9 hg9 hat9
          go_wp2
          go_roundw
          case rel => exact ⟨k + 1, by go_num, by omega, _, _, HL9.out, (fun i hi => by
            by_cases e : i = k
            · subst e; rw [upd_at]
            · rw [upd_ne _ _ e]; exact HLL.out i (by omega)), HB9.out⟩
          case measure => simp [intOf]; omega
        | false =>
          have hk3 : 0 < k := by have := of_decide_eq_false t; omega
          obtain ⟨V, L, hLs, hLL, _⟩ := hh.out
          obtain ⟨g, cap, rfl, hgb, hgl⟩ := hLs.row.form hk3
          obtain ⟨cur, hcur, hV⟩ := hLs.block (k := g) rfl
          have HLS := Lib.hid hLs; have HLL := Lib.hid hLL
          have HC := Lib.hid (show ∀ i, i < k → wr.cell? ⟨g, i, none⟩ = some (V i) from fun i hi => by unfold World.cell?; rw [hcur]; exact hV i hi)
          have HBW := Lib.hid hbw; have HBG := Lib.hid hbg
          clear hh hLs hLL hcur hV hbw hbg
          go_wp2_with fail
          clear t
          go_loopw [92, 15] (fun vi _ wx => ∃ i : Nat, vi = .int .i64 i ∧ i ≤ k ∧ Hid (∃ j, wx = wr.drewN j)) (fun vi _ _ => k - (intOf vi).toNat)
          case atStart => exact ⟨0, rfl, by omega, 0, rfl⟩
          case round =>
            obtain ⟨i, rfl, hi, hx⟩ := hrel
            obtain ⟨j, hj⟩ := hx.out
            subst hj
            by_cases hi3 : i < k
            · have hc := HC.out i hi3
              have ho := HLS.out.fam.own i hi3
              rw [HLL.out i hi3] at ho
              obtain ⟨A2, c2, hv⟩ := ho.form
              rw [ml_length] at hv
              rw [hv] at hc ho
              have hcj : (wr.drewN j).cell? ⟨g, i, none⟩ = some (.slice A2 n c2) := hc
              have ho2 : ownsT (wr.drewN j) w6.heap.size (.slice A2 n c2) (ml ss n) := ho
              have a5 := same_any A2 A n c2 c ss (wr.drewN j) (by omega) (owns_sl ho2) (HSA.out _ (below_drewN HBW.out j))
              clear hc ho ho2 hv hx
              go_wp2_with fail
              refine a5.mono ?_
              clear a5
              rintro e w' ⟨rfl, m, rfl⟩
              go_wp2
              go_roundw
              case rel => exact ⟨i + 1, by go_num, by omega, Lib.hid ⟨j + m, rfl⟩⟩
              case measure => simp [intOf]; omega
            · have hie : i = k := by omega
              have hb6 : Below w6.heap.size w6 (wr.drewN j) := below_drewN HBG.out j
              have HT5 := Lib.hid (HT4.out.below hb6)
              have a1 := out_any N (N + 1) tl2 rb (wr.drewN j) HT5.out.fb
              have hLz : Lists (wr.drewN j) w6.heap.size (.slice (some ⟨g, 0, none⟩) k cap) k V L := HLS.out.below (below_drewN (Below.refl _ _) j)
              have HLZ := Lib.hid hLz
              have hzs : wr.heap.size ≤ (wr.drewN j).heap.size := Nat.le_refl _
              clear hb6 hLz hx
              generalize wr.drewN j = wx at *
              obtain ⟨S2, hS2⟩ : ∃ S2, S2 = strOfNums tl2 := ⟨_, rfl⟩
              have hso := HSO.out
              have hxo := HXO.out
              rw [← hS2] at a1 hso hxo
              clear hS2
              have HXO2 := Lib.hid hxo
              have hR := new_rdr wx S2
              have hnb := Below.new wx (.cells #[.string S2, .int .i64 0] 85)
              have hyz : wx.heap.size + 1 ≤ (wx.alloc (.cells #[.string S2, .int .i64 0] 85)).heap.size := by simp
              have a2 := own_lists w6.heap.size k (.slice (some ⟨g, 0, none⟩) k cap) V L _ (HLZ.out.below hnb) (by omega) (fun i hi => by rw [HLL.out i hi, ml_length]; omega) (by omega)
              have HR := Lib.hid hR
              have HBY := Lib.hid (HT5.out.bel.trans (hnb.mono HT5.out.size.1))
              have hsx := HT5.out.size.1
              clear hR hnb hxo
              go_wp2_with fail
              refine a1.mono ?_
              clear a1
              rintro e w' ⟨rfl, rfl⟩
              go_wp2_with fail
              refine (read_any S2 _).mono ?_
              rintro e w' ⟨rfl, rfl⟩
              go_wp2_with fail
              refine a2.mono ?_
              clear a2
              rintro e wz ⟨rfl, hbz, hfar⟩
              have hRz : Rdr wz wx.heap.size S2 0 := (hfar _ (by omega) (fun i hi e => by have := (HLZ.out.lt.2 i _ hi e).2; omega)).trans HR.out
              have hBz := HBY.out.trans (hbz.mono (by omega))
              have hsz := hbz.size
              have a1 := rTexts_any Bf w.heap.size wx.heap.size S2 0 n 5 wz (HEB.out.below hBz) (by omega) hRz (Nat.zero_le _) (by omega) (by omega) (by omega)
              rw [HXO2.out] at a1
              replace a1 := a1.mono fun _ _ h => h.read
              rw [List.length_replicate] at a1
              have HBZ := Lib.hid hBz
              clear hfar hbz hRz hBz
              go_wp2_with fail
              refine a1.mono ?_
              clear a1
              rintro e wq ⟨A4, c4, rfl, h1, h2, h3⟩
              have h4 := h3.sl.2
              have HBQ := Lib.hid (HBZ.out.trans (h2.below (by omega) (by omega) (fun k h => by cases h)))
              have H4 := Lib.hid h4
              rw [List.length_replicate] at H4
              clear h1 h2 h3 h4
              go_wp2_with fail
              go_loopw [129, 20] (fun vi _ wy => ∃ i : Nat, vi = .int .i64 i ∧ i ≤ n ∧ Hid (wy = wq)) (fun vi _ _ => n - (intOf vi).toNat)
              case atStart => exact ⟨0, rfl, by omega, rfl⟩
              case round =>
                obtain ⟨i, rfl, hi, hy⟩ := hrel
                have hw := hy.out
                subst hw
                by_cases h : i < n
                · obtain ⟨q, rfl, _, hq, hc⟩ := H4.out (by omega)
                  have hci := hc i h
                  rw [lf_rep h] at hci
                  clear hc hy
                  go_wp2
                  go_roundw
                  case rel => exact ⟨i + 1, by go_num, by omega, Lib.hid trivial⟩
                  case measure => simp [intOf]; omega
                · obtain rfl : i = n := by omega
                  go_wp2
                  go_ret
                  exact ⟨rfl, HBQ.out⟩
end Go.Proofs.YtnodjcapclkmhaaDoor
