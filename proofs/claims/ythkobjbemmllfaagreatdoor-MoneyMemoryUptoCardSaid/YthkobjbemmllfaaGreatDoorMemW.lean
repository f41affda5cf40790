/- remitlaw04.MoneyMemory: walked, whatever comes in. -/
import Derived.Deep.AppendLies
import Derived.Deep.Upon
import Derived.WalkKit
import Derived.Test.YthkobjbemmllfaaGreatDoorMemA
import Derived.Test.YthkobjbemmllfaaGreatDoorFixed
import Derived.Test.YthkobjbemmllfaaGreatDoorSums
namespace Go.Proofs.YthkobjbemmllfaaGreatDoor
open Go Go.RowKit

theorem ownsRow_src {P : Program} {w : World} {B : Nat} {e t : TypeId} {z : Nat} {v : Value} {ys : List Value} (ht : P.underlying t = some (.slice e)) (h : w.ownsRow B e z v 0 ys) : Src P z t v 0 [] w := by
  rcases h.2 with ⟨rfl, _⟩ | ⟨g, cap, cur, rfl, _⟩
  · exact Src.ofNil w ht 0
  · exact Src.ofSlice w ht ⟨g, 0, none⟩ 0 cap [] (by simp) (by simp) (by simp)
theorem ownsRow_shape {w : World} {B : Nat} {e : TypeId} {z n : Nat} {v : Value} {xs : List Value} (h : w.ownsRow B e z v n xs) : ∃ ao cap, v = .slice ao n cap ∧ n ≤ cap := by
  rcases h.2 with ⟨rfl, rfl⟩ | ⟨g, cap, cur, rfl, _, _, hn, _⟩
  · exact ⟨_, _, rfl, Nat.le_refl _⟩
  · exact ⟨_, _, rfl, hn⟩
section
variable {P : Program} {w : World} {ops : Array Oper} {rest : List Oper} {o : Oper} {a : Act} {Q : Exit → Act → World → Prop}
theorem wpList_append_rows (hgd : o.guard = none) (s x : Operand) (t : TypeId)
    (ho : o.op = .call { callee := .builtin .append, args := #[s, x], argTypes := #[t, t] })
    (base : Nat) (e : TypeId) (i : TypeInfo) (z : Value) (size bytes : Nat) (ht : P.underlying t = some (.slice e)) (hi : P.info? e = some i) (hz : i.zero = some z)
    (hsize : i.size = size) (hby : i.bytes = bytes) (hzs : z.cells.size = size) (hsz : 0 < size)
    (v : Value) (n : Nat) (xs : List Value) (hs : a.eval s = v) (hown : w.ownsRow base e size v n xs)
    (base2 : Nat) (u : Value) (m : Nat) (ys : List Value) (hx : a.eval x = u) (hsrc : w.ownsRow base2 e size u m ys) (h1 : ∀ y ∈ ys, y.oneCell' = true)
    (h63 : n + m ≤ maxLen) (hbytes : (n + m) * bytes ≤ 140737488355328) (hbase : base ≤ w.heap.size)
    (h : ∀ v' w', w'.ownsRow base e size v' (n + m) (xs ++ ys) → w.grownBy w' v.ownBlock → (v'.ownBlock = v.ownBlock ∨ v'.ownBlock = some w.heap.size) → wpList P ops Q rest (a.put o.dst v') w') :
    wpList P ops Q (o :: rest) a w := by
  rcases Nat.eq_zero_or_pos m with h0 | h0
  · subst h0
    obtain ⟨ao, cap, rfl, hn⟩ := ownsRow_shape hown
    obtain ⟨bo, cap2, rfl, _⟩ := ownsRow_shape hsrc
    have hr := run_append_nothing w t t o.type e i ht hi ao n cap hn _ (by rw [hsize]; exact ownsRow_src ht hsrc)
    have hys : ys = [] := List.length_eq_zero_iff.1 (by have := hsrc.1; omega)
    subst hys
    refine wpList_plain hgd fun _ hK => ?_
    unfold Oper.wp execOp
    simp only [ho, resolve, invoke, builtin, Sem.run_bind, Sem.run_pure, Result.andThen_ok, List.map_toArray, List.map_cons, List.map_nil, hs, hx, hr]
    exact hK _ _ (h _ w (by simpa using hown) ⟨rfl, rfl, rfl, Nat.le_refl _, fun _ _ _ => rfl⟩ (.inl rfl))
  · obtain ⟨g, cap, rfl, _, _⟩ := hsrc.form h0
    exact wpList_append_lies w hgd s x t ho base e i z size bytes ht hi hz hsize hby hzs hsz v n xs hs hown ⟨g, 0, none⟩ m cap ys hx hsrc.1 (hsrc.cells (g := g) rfl) h1 h0 h63 hbytes hbase _ rfl
      fun g' cap' w' h2 h3 h4 _ => h _ w' h2 h3 (by
        rcases h4 with h4 | h4
        · exact .inl h4.symm
        · exact .inr (by rw [← h4]; rfl))
end
end Go.Proofs.YthkobjbemmllfaaGreatDoor
namespace Go.Proofs.YthkobjbemmllfaaGreatDoor
open Go.RowKit

/-- All blocks that P holds stay. -/
structure Fr (P : Nat → Prop) (w w' : World) : Prop where
  os : w'.os = w.os
  tape : w'.tape = w.tape
  output : w'.output = w.output
  size : w.heap.size ≤ w'.heap.size
  block : ∀ k, k < w.heap.size → P k → w'.heap[k]? = w.heap[k]?
section
variable {P : Nat → Prop} {w w1 w2 : World}
theorem Fr.refl (P : Nat → Prop) (w : World) : Fr P w w := ⟨rfl, rfl, rfl, Nat.le_refl _, fun _ _ _ => rfl⟩
theorem Fr.trans (h : Fr P w w1) (k : Fr P w1 w2) : Fr P w w2 :=
  ⟨k.os.trans h.os, k.tape.trans h.tape, k.output.trans h.output, Nat.le_trans h.size k.size, fun i hi hp => (k.block i (Nat.lt_of_lt_of_le hi h.size) hp).trans (h.block i hi hp)⟩
theorem Fr.add (h : Fr P w w1) (k : Below w1.heap.size w1 w2) : Fr P w w2 :=
  h.trans ⟨k.os, k.tape, k.output, k.size, fun i hi _ => k.block i hi⟩
theorem Fr.drewN (h : Fr P w w1) (q : Nat) : Fr P w (w1.drewN q) := h.add (below_drewN (Below.refl _ _) _)
theorem Fr.below (h : Fr P w w1) {D : Nat} (hD : D ≤ w.heap.size) (hp : ∀ k, k < D → P k) : Below D w w1 :=
  ⟨h.os, h.tape, h.output, h.size, fun k hk => h.block k (Nat.lt_of_lt_of_le hk hD) (hp k hk)⟩
theorem Fr.set (h : Fr P w w1) {b i : Nat} (hb : ¬ P b) (v : Value) : Fr P w (w1.setCell ⟨b, i, none⟩ v) :=
  ⟨h.os, h.tape, h.output, Nat.le_trans h.size (by simp [World.setCell]), fun k hk hp => (Below.heap_setCell _ _ _ _ (fun e => hb (by subst e; exact hp))).trans (h.block k hk hp)⟩
theorem Fr.grown {row : Option Nat} (h : Fr P w w1) (hg : w1.grownBy w2 row) (hr : ∀ k, row = some k → ¬ P k ∨ w.heap.size ≤ k) : Fr P w w2 :=
  ⟨hg.os.trans h.os, hg.tape.trans h.tape, hg.output.trans h.output, Nat.le_trans h.size hg.size, fun k hk hp => (hg.block k (Nat.lt_of_lt_of_le hk h.size) (fun e => by
    rcases hr k e.symm with h' | h'
    · exact h' hp
    · omega)).trans (h.block k hk hp)⟩
theorem Vals.fr {A : Option Addr} {n : Nat} {f : Nat → Int} (h : Vals w A n f) (hf : Fr P w w1) (hp : ∀ b o, A = some ⟨b, o, none⟩ → P b) : Vals w1 A n f := by
  rcases h with h | ⟨b, o, rfl, hb, hc⟩
  · exact .inl h
  · exact .inr ⟨b, o, rfl, Nat.lt_of_lt_of_le hb hf.size, fun i hi => (World.cell?_of_block (w := w) (hf.block b hb (hp b o rfl))).trans (hc i hi)⟩
theorem rowIs_fr {b n : Nat} {t : TypeId} {f : Nat → Value} (h : w.rowIs b t n f) (hf : Fr P w w1) (hp : P b) : w1.rowIs b t n f := h.of_block (hf.block b h.lt hp)
theorem RowOf.fr {base : Nat} {A : Option Addr} {m : Nat} {f : Nat → Int} (h : RowOf w base A m f) (hf : Fr P w w1) (hp : ∀ b, base ≤ b → P b) : RowOf w1 base A m f :=
  h.keep fun b e => hf.block b (h.lt e).2 (hp b (h.lt e).1)
theorem owns_fr {base : Nat} {e : TypeId} {v : Value} {n : Nat} {xs : List Value} (h : w.ownsRow base e 1 v n xs) (hf : Fr P w w1) (hp : ∀ b, base ≤ b → P b) : w1.ownsRow base e 1 v n xs := by
  refine ⟨h.1, ?_⟩
  rcases h.2 with hn | ⟨g, cap, cur, rfl, hb, hgg, rest⟩
  · exact .inl hn
  · exact .inr ⟨g, cap, cur, rfl, hb, (hf.block g (Array.getElem?_eq_some_iff.1 hgg).1 (hp g hb)).trans hgg, rest⟩
end
theorem Vals.below {w w' : World} {A : Option Addr} {n : Nat} {f : Nat → Int} (h : Vals w A n f) (hb : Below w.heap.size w w') : Vals w' A n f := by
  rcases h with h | ⟨b, o, rfl, h1, hc⟩
  · exact .inl h
  · exact .inr ⟨b, o, rfl, Nat.lt_of_lt_of_le h1 hb.size, fun i hi => (hb.cell (p := ⟨b, o + i, none⟩) h1).trans (hc i hi)⟩
theorem Vals.congr {w : World} {A : Option Addr} {n : Nat} {f g : Nat → Int} (h : Vals w A n f) (e : ∀ i, i < n → f i = g i) : Vals w A n g := by
  rcases h with h | ⟨b, o, rfl, h1, hc⟩
  · exact .inl h
  · exact .inr ⟨b, o, rfl, h1, fun i hi => by rw [← e i hi]; exact hc i hi⟩
theorem Vals.ints {w : World} {A : Option Addr} {n : Nat} {f : Nat → Int} (h : Vals w A n f) : Ints w A n f := h
theorem vals_row {w : World} {b n N : Nat} {t : TypeId} {f : Nat → Int} (h : w.rowIs b t N fun i => .int .i64 (f i)) (hn : n ≤ N) : Vals w (some ⟨b, 0, none⟩) n f :=
  .inr ⟨b, 0, rfl, h.lt, fun i hi => by rw [Nat.zero_add]; exact h.cell (by omega)⟩
theorem infoI2 : (Tryz.prog.info? 2).map (fun i => (i.zero, i.size, i.bytes)) = some (some (.int .i64 0), 1, 8) := by kernel_rfl
theorem nls_congr {f g : Nat → Int} : ∀ n, (∀ i, i < n → f i = g i) → nls f n = nls g n
  | 0, _ => rfl
  | n + 1, h => by unfold nls; rw [nls_congr n fun i hi => h i (by omega), h n (by omega)]
theorem nls_two (f : Nat → Int) (n : Nat) : nls (fun i => if i < n then f i else if i = n then 77 else 78) (n + 2) = nls f n ++ [.int .i64 77, .int .i64 78] := by
  show (nls _ n ++ [_]) ++ [_] = _
  rw [nls_congr (g := f) n fun i hi => if_pos hi, List.append_assoc]
  simp
  intro h
  omega
theorem spare_lt {z : Nat → Int} {n i : Nat} (h : i < n) : spare z n i = z i := by unfold spare; rw [if_pos h]
theorem spare_ge {z : Nat → Int} {n j : Nat} : spare z n (n + j) = markI 7 j := by unfold spare; rw [if_neg (by omega), Nat.add_sub_cancel_left]
end Go.Proofs.YthkobjbemmllfaaGreatDoor
namespace Go.Proofs.YthkobjbemmllfaaGreatDoor
open Go.RowKit

/-- All blocks but those from s3 on that lie below s4. -/
def P1 (s3 s4 k : Nat) : Prop := k < s3 ∨ s4 ≤ k
/-- All blocks but g. -/
def P2 (g k : Nat) : Prop := k ≠ g
set_option maxRecDepth 100000 in
set_option maxHeartbeats 10000000 in
theorem memory_walk (B : Nat → Addr) (a : Int) (A A2 : Option Addr) (n c n2 c2 : Nat) (z f2 : Nat → Int) (w : World) (hE : Env w B) (htab : Tab w) (ha : a ≤ 9223372036854775807)
    (hA : Tv w A n c z) (hA2 : Tv w A2 n2 c2 f2) (hf2 : ∀ i, i < n2 → fits64 (f2 i)) (hn : n ≤ 1048576) (hn2 : n2 ≤ 1048576) :
    Calls Tryz.prog 3 #[.int .i64 a, .slice A n c, .slice A2 n2 c2] w fun e w' => e = .returned (.bool true) ∧ Below w.heap.size w w' := by
  have HE := Lib.hid hE; have HA := Lib.hid hA; have HA2 := Lib.hid hA2; have HF2 := Lib.hid hf2; have HT := Lib.hid htab; have HL := Lib.hid ha
  have hnI : (n : Int) ≤ 1048576 := by omega
  have hn2I : (n2 : Int) ≤ 1048576 := by omega
  clear hE hA hA2 hf2 htab ha
  go_enter Tryz.func3, Tryz.ntmps3
  go_wp2_with fail
  refine (fixed_any B w HE.out HT.out).mono ?_
  rintro e w1 ⟨rfl, hb1⟩
  have HB1 := Lib.hid hb1
  clear hb1
  go_wp2_with fail
  refine (spare_any A n c z w1 ⟨HA.out.1, HA.out.2.below HB1.out⟩ (by omega)).mono ?_
  rintro e w2 ⟨rfl, ho2, hb2⟩
  have HG := Lib.hid (row_of_owns ho2)
  have HB2 := Lib.hid (HB1.out.trans (hb2.mono HB1.out.size))
  have HGS := Lib.hid (show w.heap.size ≤ w1.heap.size ∧ w1.heap.size < w2.heap.size from ⟨HB1.out.size, HG.out.2.lt⟩)
  clear ho2 hb2 HB1
  generalize w1.heap.size = g at *
  have HI := Lib.hid (show Ints w2 (some ⟨g, 0, none⟩) n z from (vals_row HG.out.2 (by omega)).congr fun i hi => spare_lt hi)
  go_wp2_with fail
  refine (split_all B a (some ⟨g, 0, none⟩) n (n + 80) z w2 (HE.out.below HB2.out) HL.out HI.out hn).mono ?_
  rintro e w3 ⟨Aa, m, f, rfl, hs, hr, hb3⟩
  have HS := Lib.hid hs; have HRA := Lib.hid hr; have HB3 := Lib.hid hb3
  clear hs hr hb3
  go_wp2_with fail
  refine (split_all B a (some ⟨g, 0, none⟩) n (n + 80) z w3 (HE.out.below (HB2.out.trans (HB3.out.mono HB2.out.size))) HL.out (Vals.below HI.out HB3.out) hn).mono ?_
  rintro e w4 ⟨Ab, m', f', rfl, hs, hr, hb4⟩
  obtain ⟨rfl, hff⟩ := HS.out.same hs
  have HRB := Lib.hid (hr.congr hff); have HB4 := Lib.hid hb4
  clear hs hr hb4 hff
  go_wp2_with fail
  refine (split_all B a (some ⟨g, 0, none⟩) n (n + 80) z w4 (HE.out.below ((HB2.out.trans (HB3.out.mono HB2.out.size)).trans (HB4.out.mono (Nat.le_trans HB2.out.size HB3.out.size)))) HL.out ((Vals.below HI.out HB3.out).below HB4.out) hn).mono ?_
  rintro e w5 ⟨Ac, m, f'', rfl, hs, hr, hb5⟩
  obtain ⟨rfl, hff⟩ := HS.out.same hs
  have HML := Lib.hid hs.le
  have HB5 := Lib.hid ((HB2.out.trans (HB3.out.mono HB2.out.size)).trans ((HB4.out.mono (Nat.le_trans HB2.out.size HB3.out.size)).trans (hb5.mono (Nat.le_trans (Nat.le_trans HB2.out.size HB3.out.size) HB4.out.size))))
  have HRC := Lib.hid (hr.congr hff)
  have HRA2 := Lib.hid ((HRA.out.below HB4.out).below hb5)
  have HRB2 := Lib.hid (HRB.out.below hb5)
  have HG2 := Lib.hid (show w5.rowIs g 3 (n + 80) fun i => .int .i64 (spare z n i) from ((HG.out.2.of_block (HB3.out.block g HGS.out.2)).of_block (HB4.out.block g (Nat.lt_of_lt_of_le HGS.out.2 HB3.out.size))).of_block (hb5.block g (Nat.lt_of_lt_of_le HGS.out.2 (Nat.le_trans HB3.out.size HB4.out.size))))
  have HLA := Lib.hid (show ∀ b, Aa = some ⟨b, 0, none⟩ → b < w3.heap.size from fun b e => (HRA.out.lt e).2)
  have HSZ := Lib.hid (show w2.heap.size ≤ w3.heap.size ∧ w3.heap.size ≤ w4.heap.size ∧ w4.heap.size ≤ w5.heap.size from ⟨HB3.out.size, HB4.out.size, hb5.size⟩)
  clear hs hr hb5 hff HB2 HB3 HB4 HRA HRB HG HI HS
  have HK := Lib.hid (splitErr_le a z n)
  generalize splitErr a z n = ke at *
  generalize w2.heap.size = s3 at *
  generalize w3.heap.size = s4 at *
  generalize w4.heap.size = s5 at *
  clear w2 w3 w4
  have hmI : (m : Int) ≤ 1048576 := by have := HML.out; omega
  have HENV := Lib.hid (show ∀ W, Below w5.heap.size w5 W → Below w.heap.size w W ∧ Env W B ∧ Vals W A n z ∧ Vals W A2 n2 f2 ∧ Vals W Aa m f ∧ Vals W Ab m f ∧ Vals W Ac m f from fun W h => by
    have hb := HB5.out.trans (h.mono HB5.out.size)
    exact ⟨hb, HE.out.below hb, HA.out.2.below hb, HA2.out.2.below hb, HRA2.out.vals.below h, HRB2.out.vals.below h, HRC.out.vals.below h⟩)
  go_wp2_with fail
  refine (kept_yes (some ⟨g, 0, none⟩) A n (n + 80) (n + 80) c z (spare z n) w5 rfl (vals_row HG2.out (Nat.le_refl _)) (HENV.out _ (Below.refl _ _)).2.2.1 (by omega) (fun i hi => spare_lt hi) (fun j _ => spare_ge)).mono ?_
  rintro e x0 ⟨rfl, q0, hx0⟩
  have FB0 := Lib.hid (show Below w5.heap.size w5 x0 by rw [hx0]; exact below_drewN (Below.refl _ _) _)
  clear hx0
  go_wp2_with fail
  refine (num_any B x0 (HENV.out _ FB0.out).2.1 ke HK.out).mono ?_
  rintro e x1 ⟨rfl, hb⟩
  have FB1 := Lib.hid (FB0.out.trans (hb.mono FB0.out.size))
  clear hb FB0 x0
  go_wp2_with fail
  refine (num_any B x1 (HENV.out _ FB1.out).2.1 ke HK.out).mono ?_
  rintro e x2 ⟨rfl, hb⟩
  have FB2 := Lib.hid (FB1.out.trans (hb.mono FB1.out.size))
  clear hb FB1 x1
  have e1 : ((ke : Int) != (ke : Int)) = false := bne_self_eq_false _
  go_wp2_with fail
  refine (num_any B x2 (HENV.out _ FB2.out).2.1 ke HK.out).mono ?_
  rintro e x3 ⟨rfl, hb⟩
  have FB3 := Lib.hid (FB2.out.trans (hb.mono FB2.out.size))
  clear hb FB2 x2
  go_wp2_with fail
  refine (num_any B x3 (HENV.out _ FB3.out).2.1 ke HK.out).mono ?_
  rintro e x4 ⟨rfl, hb⟩
  have FB4 := Lib.hid (FB3.out.trans (hb.mono FB3.out.size))
  clear hb FB3 x3
  go_wp2_with fail
  refine (same_yes Aa Ab m m m f x4 (HENV.out _ FB4.out).2.2.2.2.1 (HENV.out _ FB4.out).2.2.2.2.2.1 (by omega)).mono ?_
  rintro e x5 ⟨rfl, q5, hx⟩
  have FB5 := Lib.hid (show Below w5.heap.size w5 x5 by rw [hx]; exact below_drewN FB4.out _)
  clear hx FB4 x4
  go_wp2_with fail
  refine (same_yes Aa Ac m m m f x5 (HENV.out _ FB5.out).2.2.2.2.1 (HENV.out _ FB5.out).2.2.2.2.2.2 (by omega)).mono ?_
  rintro e x6 ⟨rfl, q6, hx⟩
  have FB6 := Lib.hid (show Below w5.heap.size w5 x6 by rw [hx]; exact below_drewN FB5.out _)
  clear hx FB5 x5
  clear e1
  obtain ⟨i0, hi0, hz0, hz1, hz2⟩ := info_parts infoI2
  have H0 := Lib.hid hi0; have HZ0 := Lib.hid hz0; have HZ1 := Lib.hid hz1; have HZ2 := Lib.hid hz2
  clear hi0 hz0 hz1 hz2
  go_wp2_with (refine wpList_make_own _ rfl _ _ 23 rfl x6.heap.size 2 i0 (.int .i64 0) 1 Tryz.underlying23 H0.out HZ0.out HZ1.out .i64 .i64 ((n2 : Int) + 2) (n2 + 2) rfl rfl (by omega) (by rw [HZ2.out]; omega) (by unfold maxLen; omega) (Nat.le_refl _) ?_)
  intro y1 ho hg
  have FBy1 := Lib.hid (FB6.out.trans ((show Below x6.heap.size x6 y1 from ⟨hg.os, hg.tape, hg.output, hg.size, fun k hk => hg.block k hk (by simp)⟩).mono FB6.out.size))
  have HO := Lib.hid ho
  have HGV := Lib.hid FB6.out.size
  clear ho hg FB6
  generalize x6.heap.size = gG at *
  have hnews : ∀ ad, A2 = some ad → ∀ j u, (nls f2 n2)[j]? = some u → y1.cell? (ad.add j) = some u := by
    intro ad had j u hj
    have hjn : j < n2 := by
      have := (List.getElem?_eq_some_iff.1 hj).1
      rwa [nls_length] at this
    rcases (HENV.out _ FBy1.out).2.2.2.1 with h0 | ⟨b, o, hab, hb, hc⟩
    · omega
    rw [had] at hab
    obtain rfl := Option.some.inj hab
    rw [add_spot, hc j hjn]
    rw [nls_at f2 n2 j hjn] at hj
    exact hj
  have HN := Lib.hid hnews; clear hnews
  go_wp2_with (first | (at_builtin; refine wpList_append_fits_any _ rfl _ _ 23 rfl gG 2 i0 1 Tryz.underlying23 H0.out HZ1.out gG 0 (n2 + 2) [] rfl HO.out A2 n2 c2 (nls f2 n2) rfl ?c1 HA2.out.1 HN.out (nls_one f2 n2) ?c2 ?_))
  case c1 => rw [nls_length, Nat.mul_one]
  case c2 => omega
  intro y2 ho2 hg2
  have HLT := Lib.hid (HO.out.lt gG rfl)
  have FBy2 := Lib.hid (FBy1.out.trans (((Below.refl gG y1).grown hg2 (Nat.le_of_lt HLT.out.2) (fun k hk => by rw [← Option.some.inj hk]; exact Nat.le_refl _)).mono HGV.out))
  have HO2 := Lib.hid ho2
  clear ho2 hg2 HN HO FBy1
  go_wp2_with (first | (at_builtin; refine wpList_append_fits _ rfl _ _ 23 rfl gG 2 i0 1 Tryz.underlying23 H0.out HZ1.out gG n2 (n2 + 2) _ rfl (HO2.out.alloc _) ⟨y2.heap.size, 0, none⟩ 2 2 [.int .i64 77, .int .i64 78] rfl rfl (World.news_of_block (heap_alloc_new y2 _)) ?d1 ?d2 ?_))
  case d1 => intro u hu; simp at hu; rcases hu with rfl | rfl <;> rfl
  case d2 => omega
  intro y3 ho3 hg3
  have FBy3 := Lib.hid (FBy2.out.trans (((Below.refl gG y2).alloc (Nat.le_of_lt (HO2.out.lt gG rfl).2) _ |>.grown hg3 (by have := (HO2.out.lt gG rfl).2; simp; omega) (fun k hk => by rw [← Option.some.inj hk]; exact Nat.le_refl _)).mono HGV.out))
  have HR3 := Lib.hid (row_of_owns (f := fun i => if i < n2 then f2 i else if i = n2 then 77 else 78) (b := gG) (n := n2 + 2) (by
    rw [show nls (fun i => if i < n2 then f2 i else if i = n2 then 77 else 78) (n2 + 2) = nls f2 n2 ++ [.int .i64 77, .int .i64 78] from nls_two f2 n2]
    exact ho3)).2
  clear ho3 hg3 HO2 FBy2 HLT
  go_wp2_with fail
  refine (sum_any B (some ⟨gG, 0, none⟩) n2 (n2 + 2) f2 y3 (HENV.out _ FBy3.out).2.1 ((vals_row HR3.out (by omega)).congr fun i hi => if_pos hi) HF2.out (by omega)).mono ?_
  rintro e y4 ⟨rfl, hb⟩
  have FBy4 := Lib.hid (FBy3.out.trans (hb.mono FBy3.out.size))
  have HR4 := Lib.hid (show y4.rowIs gG 2 (n2 + 2) fun i => .int .i64 (if i < n2 then f2 i else if i = n2 then 77 else 78) from HR3.out.of_block (hb.block gG HR3.out.lt))
  clear hb FBy3 HR3
  go_wp2_with fail
  refine (sum_any B A2 n2 c2 f2 y4 (HENV.out _ FBy4.out).2.1 (HENV.out _ FBy4.out).2.2.2.1 HF2.out (by omega)).mono ?_
  rintro e y5 ⟨rfl, hb⟩
  have FBy5 := Lib.hid (FBy4.out.trans (hb.mono FBy4.out.size))
  have HR5 := Lib.hid (show y5.rowIs gG 2 (n2 + 2) fun i => .int .i64 (if i < n2 then f2 i else if i = n2 then 77 else 78) from HR4.out.of_block (hb.block gG HR4.out.lt))
  have HFN := Lib.hid (show fn (sumTo f2 n2) ≤ 37 by unfold fn; split <;> decide)
  clear hb FBy4 HR4
  generalize fv (sumTo f2 n2) = sv at *
  generalize fn (sumTo f2 n2) = sk at *
  go_wp2_with fail
  refine (num_any B y5 (HENV.out _ FBy5.out).2.1 sk HFN.out).mono ?_
  rintro e y6 ⟨rfl, hb⟩
  have FBy6 := Lib.hid (FBy5.out.trans (hb.mono FBy5.out.size))
  have HR6 := Lib.hid (show y6.rowIs gG 2 (n2 + 2) fun i => .int .i64 (if i < n2 then f2 i else if i = n2 then 77 else 78) from HR5.out.of_block (hb.block gG HR5.out.lt))
  clear hb FBy5 HR5 y5
  go_wp2_with fail
  refine (num_any B y6 (HENV.out _ FBy6.out).2.1 sk HFN.out).mono ?_
  rintro e y7 ⟨rfl, hb⟩
  have FBy7 := Lib.hid (FBy6.out.trans (hb.mono FBy6.out.size))
  have HR7 := Lib.hid (show y7.rowIs gG 2 (n2 + 2) fun i => .int .i64 (if i < n2 then f2 i else if i = n2 then 77 else 78) from HR6.out.of_block (hb.block gG HR6.out.lt))
  clear hb FBy6 HR6 y6
  have e1 : ((sk : Int) != (sk : Int)) = false := bne_self_eq_false _
  have e2 : (sv != sv) = false := bne_self_eq_false _
  go_wp2_with fail
  refine (same_yes (some ⟨gG, 0, none⟩) A2 n2 (n2 + 2) c2 f2 y7 ((vals_row HR7.out (by omega)).congr fun i hi => if_pos hi) (HENV.out _ FBy7.out).2.2.2.1 (by omega)).mono ?_
  rintro e y8 ⟨rfl, q8, hx⟩
  have FBy8 := Lib.hid (show Below w5.heap.size w5 y8 by rw [hx]; exact below_drewN FBy7.out _)
  have c77 : y8.cell? ⟨gG, n2, none⟩ = some (.int .i64 77) := by rw [hx]; exact (HR7.out.cell (i := n2) (by omega)).trans (by rw [if_neg (by omega), if_pos rfl])
  have c78 : y8.cell? ⟨gG, n2 + 1, none⟩ = some (.int .i64 78) := by rw [hx]; exact (HR7.out.cell (i := n2 + 1) (by omega)).trans (by rw [if_neg (by omega), if_neg (by omega)])
  clear hx HR7 FBy7 y7
  have n2w : IntKind.i64.wrap ((n2 : Int) + 1) = ((n2 + 1 : Nat) : Int) := by rw [IntKind.wrap_i64]; omega
  have FBn := Lib.hid (FBy8.out.trans (((Below.refl y8.heap.size y8).alloc (Nat.le_refl _) (.cells #[] 2)).mono FBy8.out.size))
  have HBW := Lib.hid ((HRB2.out.below FBn.out).owns (by have := HML.out; unfold maxLen; omega))
  have HOW := Lib.hid (World.ownsRow_made (w := y8) (base := y8.heap.size) (e := 2) (size := 1) #[] 0 (Nat.le_refl _) (Nat.zero_le _) rfl)
  have HY8 := Lib.hid FBy8.out.size
  go_wp2_with (first | (at_builtin; refine wpList_append_rows rfl _ _ 23 rfl y8.heap.size 2 i0 (.int .i64 0) 1 8 Tryz.underlying23 H0.out HZ0.out HZ1.out HZ2.out rfl (by decide) (.slice (some ⟨y8.heap.size, 0, none⟩) 0 0) 0 [] rfl HOW.out s4 (.slice Ab m m) m (nls f m) rfl HBW.out (nls_one f m) ?_ ?_ ?_ ?_))
  · unfold maxLen; omega
  · omega
  · simp
  intro vW z1 hoW hgW hbW
  have HWS := Lib.hid hoW
  have FBz1 := Lib.hid (show Below w5.heap.size w5 z1 from FBn.out.trans (((Below.refl y8.heap.size (y8.alloc (.cells #[] 2))).grown hgW (by simp) (fun k hk => by rw [← Option.some.inj hk]; exact Nat.le_refl _)).mono HY8.out))
  obtain ⟨Aw, cw, rfl, hcw⟩ := ownsRow_shape hoW
  clear hoW hgW hbW HOW HBW FBn FBy8 c77 c78 n2w e1 e2 hcw
  generalize y8.heap.size = s6 at *
  have HK1 := Lib.hid (show ∀ W, Fr (P1 s3 s4) z1 W → Below w.heap.size w W ∧ RowOf W s4 Ab m f ∧ RowOf W s5 Ac m f ∧ W.ownsRow s6 2 1 (.slice Aw m cw) m (nls f m) ∧ W.rowIs g 3 (n + 80) (fun i => .int .i64 (spare z n i)) from fun W h => by
    obtain ⟨j1, j2⟩ := HGS.out
    obtain ⟨j3, j4, j5⟩ := HSZ.out
    have j6 := HY8.out
    have j7 := FBz1.out.size
    have j8 := HB5.out.size
    have hb := HB5.out.trans ((FBz1.out.mono HB5.out.size).trans (h.below (D := w.heap.size) (by omega) fun k hk => .inl (by omega)))
    exact ⟨hb, (HRB2.out.below FBz1.out).fr h fun b hb => .inr hb, (HRC.out.below FBz1.out).fr h fun b hb => .inr (by omega), owns_fr HWS.out h fun b hb => .inr (by omega),
      rowIs_fr (HG2.out.of_block (FBz1.out.block g (by omega))) h (.inl j2)⟩)
  go_wp2_with fail
  go_loopw [146, 147, 148, 21, 149, 150, 151, 152] (fun vi _ _ _ _ _ _ _ wr => ∃ k : Nat, vi = .int .i64 k ∧ k ≤ m ∧ Hid (Fr (P1 s3 s4) z1 wr ∧ RowOf wr s3 Aa m (fun i => if i < k then -7 else f i))) (fun vi _ _ _ _ _ _ _ _ => m - (intOf vi).toNat)
  case atStart => exact ⟨0, rfl, Nat.zero_le _, Lib.hid ⟨Fr.refl _ _, (HRA2.out.below FBz1.out).congr fun i _ => (if_neg (Nat.not_lt_zero i)).symm⟩⟩
  case round =>
    obtain ⟨k, rfl, hk, hh⟩ := hrel
    rcases Nat.lt_or_ge k m with h | h
    · have hkI : (k : Int) < m := by omega
      rcases hh.out.2 with ⟨_, h0⟩ | ⟨bA, e, hA1, hA2'⟩
      · omega
      subst e
      have c0 := hA2'.cell h
      have c1 := hA2'.frozen k
      have HR := Lib.hid hA2'; have HBA := Lib.hid hA1
      clear hA1 hA2'
      go_wp2
      go_roundw
      case rel =>
        refine ⟨k + 1, by go_num, h, Lib.hid ⟨hh.out.1.set (fun hp => ?_) _, .inr ⟨bA, rfl, HBA.out, (HR.out.set k _).congr fun i _ => ?_⟩⟩⟩
        · rcases hp with hp | hp
          · have := HBA.out; omega
          · have := HLA.out bA rfl; omega
        · show (if i = k then _ else Value.int .i64 (if i < k then -7 else f i)) = .int .i64 (if i < k + 1 then -7 else f i)
          by_cases e : i = k
          · subst e; rw [if_pos rfl, if_pos (by omega)]
          · rw [if_neg e]
            by_cases e2 : i < k
            · rw [if_pos e2, if_pos (by omega)]
            · rw [if_neg e2, if_neg (by omega)]
      case measure => simp [intOf]; omega
    · obtain rfl : m = k := by omega
      have HFR := Lib.hid hh.out.1; have HRA3 := Lib.hid (hh.out.2.congr (g := fun _ => -7) fun i hi => if_pos hi)
      clear hh h hk
      go_wp2_with fail
      go_loopw [22, 23, 154, 155, 158, 159, 160, 156, 157] (fun vg vi _ _ _ _ _ _ _ wx => ∃ (k : Nat) (Ag : Option Addr) (cg : Nat), vg = .slice Ag (m + k) cg ∧ vi = .int .i64 k ∧ k ≤ 80 ∧ Hid (Fr (P1 s3 s4) z1 wx ∧ (∃ xs, wx.ownsRow s3 2 1 (.slice Ag (m + k) cg) (m + k) xs) ∧ ∀ b, (Value.slice Ag (m + k) cg).ownBlock = some b → b < s4 ∨ z1.heap.size ≤ b)) (fun _ vi _ _ _ _ _ _ _ _ => 80 - (intOf vi).toNat)
      case atStart => exact ⟨0, Aa, m, rfl, rfl, Nat.zero_le _, Lib.hid ⟨HFR.out, ⟨_, HRA3.out.owns (by have := HML.out; unfold maxLen; omega)⟩, fun b hb => .inl (by
        rcases HRA3.out with ⟨rfl, _⟩ | ⟨b', rfl, _⟩
        · cases hb
        · cases hb; exact HLA.out b' rfl)⟩⟩
      case round =>
        obtain ⟨k, Ag, cg, rfl, rfl, hk, hh⟩ := hrel
        cases t : decide ((k : Int) < 80) with
        | true =>
          have t' := of_decide_eq_true t
          obtain ⟨xs, hown⟩ := hh.out.2.1
          have HOW := Lib.hid (hown.alloc (.cells #[.int .i64 (-8)] 2))
          clear hown
          have HSS := Lib.hid (show s3 ≤ (wr.alloc (.cells #[.int .i64 (-8)] 2)).heap.size by
            have := hh.out.1.size; have := FBz1.out.size; have := HSZ.out; simp; omega)
          go_wp2_with (first | (at_builtin; refine wpList_append_lies _ rfl _ _ 23 rfl s3 2 i0 (.int .i64 0) 1 8 Tryz.underlying23 H0.out HZ0.out HZ1.out HZ2.out rfl (by decide) (.slice Ag (m + k) cg) (m + k) xs rfl HOW.out ⟨wr.heap.size, 0, none⟩ 1 1 [.int .i64 (-8)] rfl rfl (cell_one_new wr _ 2) ?e1 (by decide) ?e2 ?e3 HSS.out _ rfl ?_))
          case e1 => intro u hu; simp at hu; subst hu; rfl
          case e2 => have := HML.out; unfold maxLen; omega
          case e3 => have := HML.out; omega
          intro g' cap' wy hoy hgy hat hlt
          have HOY := Lib.hid hoy
          have HF := Lib.hid (show Fr (P1 s3 s4) z1 wy from (hh.out.1.add ((Below.refl wr.heap.size wr).alloc (Nat.le_refl _) (.cells #[.int .i64 (-8)] 2))).grown hgy fun b hb => by
            have h1 := (HOW.out.lt b hb).1
            rcases hh.out.2.2 b hb with h2 | h2
            · left; intro hp; rcases hp with hp | hp <;> omega
            · exact .inr h2)
          have HAT := Lib.hid (show g' < s4 ∨ z1.heap.size ≤ g' by
            rcases hat with hb | hb
            · exact hh.out.2.2 g' hb
            · right; have := hh.out.1.size; omega)
          clear hoy hgy hat hlt
          go_wp2
          go_roundw
          case rel => exact ⟨k + 1, _, cap', rfl, by go_num, by omega, Lib.hid ⟨HF.out, ⟨_, HOY.out⟩, fun b hb => by cases hb; exact HAT.out⟩⟩
          case measure => simp [intOf]; omega
        | false =>
          have t' := of_decide_eq_false t
          have HFX := Lib.hid hh.out.1
          clear hh
          obtain ⟨z2, rfl⟩ : ∃ z2, z2 = wr := ⟨_, rfl⟩
          have HK2 := Lib.hid (show ∀ W, Fr (P2 g) z2 W → Below w.heap.size w W ∧ RowOf W s4 Ab m f ∧ RowOf W s5 Ac m f ∧ W.ownsRow s6 2 1 (.slice Aw m cw) m (nls f m) from fun W h => by
            obtain ⟨i1, i2, i3, i4, i5⟩ := HK1.out z2 HFX.out
            obtain ⟨j1, j2⟩ := HGS.out
            obtain ⟨j3, j4, j5⟩ := HSZ.out
            have j6 := HY8.out
            have hg : ∀ b, s4 ≤ b → P2 g b := fun b hb (e : b = g) => by omega
            exact ⟨i1.trans (h.below i1.size fun k hk (e : k = g) => by omega), i2.fr h hg, i3.fr h fun b hb => hg b (by omega), owns_fr i4 h fun b hb => hg b (by omega)⟩)
          have HG3 := Lib.hid (HK1.out z2 HFX.out).2.2.2.2
          go_wp2_with fail
          go_loopw [163, 164, 165, 24, 166, 167, 168, 169, 170, 171] (fun vi _ _ _ _ _ _ _ _ _ wx => ∃ k : Nat, vi = .int .i64 k ∧ k ≤ n + 80 ∧ Hid (Fr (P2 g) z2 wx ∧ wx.rowIs g 3 (n + 80) (fun i => .int .i64 (if i < k then ((i % 3 : Nat) : Int) else spare z n i)))) (fun vi _ _ _ _ _ _ _ _ _ _ => n + 80 - (intOf vi).toNat)
          case atStart => exact ⟨0, rfl, Nat.zero_le _, Lib.hid ⟨Fr.refl _ _, HG3.out.congr fun i _ => by rw [if_neg (Nat.not_lt_zero i)]⟩⟩
          case round =>
            obtain ⟨k, rfl, hk, hh⟩ := hrel
            rcases Nat.lt_or_ge k (n + 80) with h | h
            · have hkI : (k : Int) < (n : Int) + 80 := by omega
              have c0 := hh.out.2.cell h
              have c1 := hh.out.2.frozen k
              go_wp2
              go_roundw
              case rel =>
                refine ⟨k + 1, by go_num, h, Lib.hid ⟨hh.out.1.set (fun hp => hp rfl) _, (hh.out.2.set k _).congr fun i _ => ?_⟩⟩
                show (if i = k then _ else Value.int .i64 (if i < k then ((i % 3 : Nat) : Int) else spare z n i)) = .int .i64 (if i < k + 1 then ((i % 3 : Nat) : Int) else spare z n i)
                by_cases e : i = k
                · subst e; rw [if_pos rfl, if_pos (by omega)]
                  exact congrArg (Value.int .i64) (by omega)
                · rw [if_neg e]
                  by_cases e2 : i < k
                  · rw [if_pos e2, if_pos (by omega)]
                  · rw [if_neg e2, if_neg (by omega)]
              case measure => simp [intOf]; omega
            · obtain rfl : k = n + 80 := by omega
              have HFY := Lib.hid hh.out.1
              have HG4 := Lib.hid (show wr.rowIs g 3 (n + 80) (fun i => .int .i64 ((i % 3 : Nat) : Int)) from hh.out.2.congr fun i hi => by rw [if_pos hi])
              clear hh h hk
              have HY := Lib.hid (HK2.out wr HFY.out)
              clear HK2 HK1 HG3 HFY HFX HFR HRA3 HENV HG2 HRA2 HRB2 HRC HWS FBz1
              have HZZ := Lib.hid (show Vals wr (some ⟨g, 0, none⟩) n (fun i => ((i % 3 : Nat) : Int)) from vals_row HG4.out (by omega))
              obtain ⟨zz, hzz⟩ : ∃ zz : Nat → Int, zz = fun i => ((i % 3 : Nat) : Int) := ⟨_, rfl⟩
              rw [← hzz] at HZZ
              have HG5 := Lib.hid (show wr.rowIs g 3 (n + 80) (fun i => .int .i64 (zz i)) by rw [hzz]; exact HG4.out)
              clear HG4 hzz
              go_wp2_with fail
              refine (split_all B a (some ⟨g, 0, none⟩) n (n + 80) zz wr (HE.out.below HY.out.1) HL.out HZZ.out hn).mono ?_
              rintro e v1 ⟨A5, m5, f5, rfl, hs5, hr5, hb5⟩
              have HS5 := Lib.hid hs5; have HR5 := Lib.hid hr5
              have HGW := Lib.hid HG5.out.lt
              have HG6 := Lib.hid (show v1.rowIs g 3 (n + 80) (fun i => .int .i64 (zz i)) from HG5.out.of_block (hb5.block g HG5.out.lt))
              have HY1 := Lib.hid (show Below w.heap.size w v1 ∧ RowOf v1 s4 Ab m f ∧ RowOf v1 s5 Ac m f ∧ v1.ownsRow s6 2 1 (.slice Aw m cw) m (nls f m) from
                ⟨HY.out.1.trans (hb5.mono HY.out.1.size), HY.out.2.1.below hb5, HY.out.2.2.1.below hb5, owns_fr (P := fun _ => True) HY.out.2.2.2 ((Fr.refl _ _).add hb5) fun _ _ => trivial⟩)
              have hm5 : m5 ≤ 1048576 := Nat.le_trans hs5.le hn
              clear hs5 hr5 hb5 HG5 HZZ HY
              have FBv := Lib.hid (show Below v1.heap.size v1 (v1.alloc (.cells #[] 3)) from (Below.refl v1.heap.size v1).alloc (Nat.le_refl _) (.cells #[] 3))
              have HBV := Lib.hid (owns_of_row (n := n) (HG6.out.alloc (.cells #[] 3)) (Nat.le_refl g) (by omega) (by unfold maxLen; omega))
              have HOV := Lib.hid (World.ownsRow_made (w := v1) (base := v1.heap.size) (e := 3) (size := 1) #[] 0 (Nat.le_refl _) (Nat.zero_le _) rfl)
              obtain ⟨i3, hi0, hz0, hz1, hz2⟩ := info_parts infoI3
              have G0 := Lib.hid hi0; have GZ0 := Lib.hid hz0; have GZ1 := Lib.hid hz1; have GZ2 := Lib.hid hz2
              clear hi0 hz0 hz1 hz2
              go_wp2_with (first | (at_builtin; refine wpList_append_rows rfl _ _ 22 rfl v1.heap.size 3 i3 (.int .i64 0) 1 8 Tryz.underlying22 G0.out GZ0.out GZ1.out GZ2.out rfl (by decide) (.slice (some ⟨v1.heap.size, 0, none⟩) 0 0) 0 [] rfl HOV.out g (.slice (some ⟨g, 0, none⟩) n (n + 80)) n (nls zz n) rfl HBV.out (nls_one zz n) ?_ ?_ ?_ ?_))
              · unfold maxLen; omega
              · omega
              · simp
              intro vC v2 hoC hgC hbC
              have HC := Lib.hid hoC
              have FBv2 := Lib.hid (show Below v1.heap.size v1 v2 from FBv.out.trans ((Below.refl v1.heap.size (v1.alloc (.cells #[] 3))).grown hgC (by simp) (fun k hk => by rw [← Option.some.inj hk]; exact Nat.le_refl _)))
              obtain ⟨Ax, cx, rfl, hcx⟩ := ownsRow_shape hoC
              have HX := Lib.hid (vals_of_owns hoC)
              clear hoC hgC hbC HOV HBV FBv hcx HC
              go_wp2_with fail
              refine (split_all B a Ax n cx zz v2 (HE.out.below (HY1.out.1.trans (FBv2.out.mono HY1.out.1.size))) HL.out HX.out hn).mono ?_
              rintro e v3 ⟨A6, m6, f6, rfl, hs6, hr6, hb6⟩
              obtain ⟨rfl, hff⟩ := HS5.out.same hs6
              have FBv3 := Lib.hid (FBv2.out.trans (hb6.mono FBv2.out.size))
              have HR6 := Lib.hid (hr6.congr hff)
              clear hs6 hr6 hb6 hff FBv2 HX
              have HK5 := Lib.hid (splitErr_le a zz n)
              generalize splitErr a zz n = k5 at *
              have HV := Lib.hid (show ∀ W, Below v3.heap.size v3 W → Below w.heap.size w W ∧ Env W B ∧ Vals W Ab m f ∧ Vals W Ac m f ∧ Vals W Aw m f ∧ Vals W A5 m6 f5 ∧ Vals W A6 m6 f5 from fun W h => by
                obtain ⟨i1, i2, i3, i4⟩ := HY1.out
                have h1 := FBv3.out.trans (h.mono FBv3.out.size)
                have hb := i1.trans (h1.mono i1.size)
                exact ⟨hb, HE.out.below hb, i2.vals.below h1, i3.vals.below h1, (vals_of_owns i4).below h1, HR5.out.vals.below h1, HR6.out.vals.below h⟩)
              go_wp2_with fail
              refine (same_yes Ab Aw m m cw f v3 (HV.out _ (Below.refl _ _)).2.2.1 (HV.out _ (Below.refl _ _)).2.2.2.2.1 (by omega)).mono ?_
              rintro e u1 ⟨rfl, p1, hx⟩
              have FU1 := Lib.hid (show Below v3.heap.size v3 u1 by rw [hx]; exact below_drewN (Below.refl _ _) _)
              clear hx
              go_wp2_with fail
              refine (same_yes Ac Aw m m cw f u1 (HV.out _ FU1.out).2.2.2.1 (HV.out _ FU1.out).2.2.2.2.1 (by omega)).mono ?_
              rintro e u2 ⟨rfl, p2, hx⟩
              have FU2 := Lib.hid (show Below v3.heap.size v3 u2 by rw [hx]; exact below_drewN FU1.out _)
              clear hx FU1
              go_wp2_with fail
              refine (num_any B u2 (HV.out _ FU2.out).2.1 k5 HK5.out).mono ?_
              rintro e u3 ⟨rfl, hb⟩
              have FU3 := Lib.hid (FU2.out.trans (hb.mono FU2.out.size))
              clear hb FU2
              go_wp2_with fail
              refine (num_any B u3 (HV.out _ FU3.out).2.1 k5 HK5.out).mono ?_
              rintro e u4 ⟨rfl, hb⟩
              have FU4 := Lib.hid (FU3.out.trans (hb.mono FU3.out.size))
              clear hb FU3
              have e5 : ((k5 : Int) == (k5 : Int)) = true := beq_self_eq_true _
              go_wp2_with fail
              refine (same_yes A5 A6 m6 m6 m6 f5 u4 (HV.out _ FU4.out).2.2.2.2.2.1 (HV.out _ FU4.out).2.2.2.2.2.2 (by omega)).mono ?_
              rintro e u5 ⟨rfl, p5, hx⟩
              have FU5 := Lib.hid (show Below w.heap.size w u5 by rw [hx]; exact below_drewN (HV.out _ FU4.out).1 _)
              clear hx FU4
              go_wp2
              go_ret
              exact ⟨rfl, FU5.out⟩
end Go.Proofs.YthkobjbemmllfaaGreatDoor
