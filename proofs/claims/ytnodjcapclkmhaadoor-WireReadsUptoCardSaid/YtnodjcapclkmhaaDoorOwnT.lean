/- OwnTexts: lists that share no block are told to be their own: walked. -/
import Derived.Test.YtnodjcapclkmhaaDoorOwnM
import Derived.Deep.Cut
import Derived.BigRegion
import Derived.IntWalk
namespace Go.Proofs.YtnodjcapclkmhaaDoor
open Go.RowKit

theorem M3.start {base G g2 n cap : Nat} {V : Nat → Value} {N : Nat → Nat} {w wr w2 : World} {b : Option Nat} {o : Obj} (h : M1 base G n V N w wr n) (hb : base ≤ wr.heap.size) (hG : G < wr.heap.size)
    (ho : w2.ownsRow wr.heap.size 28 1 (.slice (some ⟨g2, 0, none⟩) n cap) n (vals V n)) (hg : (wr.alloc o).grownBy w2 b) (hbb : ∀ k, b = some k → wr.heap.size ≤ k) : M3 base G g2 n wr.heap.size V N w w2 (fun _ => 0) V := by
  obtain ⟨L, hF, hl, hm, hfr⟩ := h
  have hbel : Below wr.heap.size wr w2 := below_grown (Below.new wr o) (by simp) hg hbb
  have hF2 := hF.below hbel
  have hown : ∀ m, m < n → ownsT w2 base (V m) (marks m (N m)) := fun m h => by rw [← hm m h]; exact hF2.own m h
  refine ⟨⟨hown, hF.apart⟩, ?_, fun m h q c hv j hj => ?_, fun m _ => .inl rfl, hfr.below hbel hG hb, hbel.size⟩
  · rcases ho.2 with ⟨hv, _⟩ | ⟨g, cap', cur, hv, _, hg2, h1, h2, h3, h4⟩
    · cases hv
    · obtain rfl : g2 = g := Option.some.inj (congrArg Value.ownBlock hv)
      refine ⟨cur, hg2, fun m hmn => ?_⟩
      have h5 : (cur.toList.take (n * 1))[m]? = some (V m) := by rw [h4]; exact vals_at hmn
      rw [List.getElem?_take_of_lt (by omega)] at h5
      simpa using h5
  · have := hown m h
    rw [hv] at this
    have hc := (this.cellf (j := j) (by rw [marks_length]; exact hj)).1
    rw [hc]
    unfold lf
    rw [List.getD_eq_getElem?_getD, List.getElem?_eq_getElem (by rw [marks_length]; exact hj), marks_at]
    rfl
theorem C3.start {base G g2 n : Nat} {V : Nat → Value} {N : Nat → Nat} {w wr : World} {cur : Array Value} (h : M1 base G n V N w wr n) (hb : base ≤ wr.heap.size) (hG : G < wr.heap.size) (hg2 : wr.heap.size ≤ g2) (hcur : w.heap[G]? = some (.cells cur 28 (0, 0))) : C3 base G g2 n wr.heap.size V w := by
  obtain ⟨L, hF, hl, hm, hfr⟩ := h
  exact ⟨hF.apart, fun m h q hq => (World.ownsRow.lt (hF.own m h) q hq).2, ⟨hg2, hb, hG, hfr.bel.size⟩, cur, (0, 0), hcur⟩

theorem new_at (w : World) (o : Obj) (g : Nat) (h : w.heap.size = g) : (w.alloc o).heap[g]? = some o := by subst h; exact heap_alloc_new w o
theorem M3.kcongr {base G g2 n Z : Nat} {V V' : Nat → Value} {N K K' : Nat → Nat} {w wr : World} (h : M3 base G g2 n Z V N w wr K V') (hk : ∀ m, m < n → K m = K' m) : M3 base G g2 n Z V N w wr K' V' :=
  ⟨⟨fun m hm => by have := h.fam.own m hm; simp only [hk m hm] at this; exact this, h.fam.apart⟩, h.arr, h.old, h.near, h.frm, h.sz⟩
theorem M3.look {base G g2 n Z m : Nat} {V V' : Nat → Value} {N : Nat → Nat} {w wr : World} (h : M3 base G g2 n Z V N w wr (fun _ => 80) V') (hm : m < n) :
    ∃ q c, wr.cell? ⟨g2, m, none⟩ = some (.slice (some ⟨q, 0, none⟩) (N m + 80) c) ∧ q < wr.heap.size ∧ ∀ j, j < N m + 80 → wr.cell? ⟨q, j, none⟩ = some (.string (wordS (m : Int) (j : Int))) := by
  have hown := h.fam.own m hm
  obtain ⟨A, c, hv⟩ := hown.form
  rw [hv] at hown
  rw [marks_length] at hv
  obtain ⟨_, h2⟩ := hown.sl
  obtain ⟨q, rfl, _, hq, hc⟩ := h2 (by rw [marks_length]; omega)
  obtain ⟨cur, hg2, hcur⟩ := h.arr
  refine ⟨q, c, by unfold World.cell?; rw [hg2]; exact (hcur m hm).trans (by rw [hv]), hq, fun j hj => ?_⟩
  rw [hc j (by rw [marks_length]; exact hj)]
  unfold lf
  rw [List.getD_eq_getElem?_getD, List.getElem?_eq_getElem (by rw [marks_length]; exact hj), marks_at]
  rfl
theorem below_drew1 (w : World) : Below w.heap.size w w.drew := below_drewN (Below.refl _ _) 1
/-- What the growing of list m by one text needs and leaves. -/
theorem M3.round {base G g2 n Z m k : Nat} {V : Nat → Value} {N : Nat → Nat} {w wr : World} (h : ∃ V', M3 base G g2 n Z V N w wr (fun q => if q < m then k + 1 else k) V') (c : C3 base G g2 n Z V w) (hm : m < n) :
    ∃ A cp, wr.cell? ⟨g2, m, none⟩ = some (.slice A (N m + k) cp) ∧ wr.frozen? ⟨g2, m, none⟩ = false ∧ g2 < wr.heap.size ∧ base ≤ wr.heap.size ∧
      ∀ w3, Below wr.heap.size wr w3 → ownsT w3 base (.slice A (N m + k) cp) (marks m (N m + k)) ∧
        ∀ g cap w', ownsT w' base (.slice (some ⟨g, 0, none⟩) (N m + k + 1) cap) (marks m (N m + k) ++ [wordS (m : Int) ((N m + k : Nat) : Int)]) → Went w3 w' (.slice A (N m + k) cp) g →
          (∃ u, w'.cell? ⟨g2, m, none⟩ = some u) ∧ w'.frozen? ⟨g2, m, none⟩ = false ∧
          ∃ V', M3 base G g2 n Z V N w (w'.setCell ⟨g2, m, none⟩ (.slice (some ⟨g, 0, none⟩) (N m + k + 1) cap)) (fun q => if q < m + 1 then k + 1 else k) V' := by
  obtain ⟨V', hM⟩ := h
  have hown := hM.fam.own m hm
  simp only [Nat.lt_irrefl, if_false] at hown
  obtain ⟨A, cp, hv⟩ := hown.form
  rw [marks_length] at hv
  obtain ⟨cur, hg2, hcur⟩ := hM.arr
  have hg2l : g2 < wr.heap.size := by
    rcases Nat.lt_or_ge g2 wr.heap.size with h | h
    · exact h
    · rw [Array.getElem?_eq_none h] at hg2; cases hg2
  have hb := c.big
  have hsz := hM.sz
  refine ⟨A, cp, by unfold World.cell?; rw [hg2]; exact (hcur m hm).trans (by rw [hv]), by simp [World.frozen?, hg2], hg2l, by omega, fun w3 hb3 => ?_⟩
  have hM3 := hM.below c hb3
  have hown3 := hM3.fam.own m hm
  simp only [Nat.lt_irrefl, if_false] at hown3
  refine ⟨by rw [← hv]; exact hown3, fun g cap w' ho hw => ?_⟩
  rw [← hv] at hw
  have hne := hown3.ne_of ((hb3.block g2 hg2l).trans hg2)
  have hgrow : w3.grownBy w' (V' m).ownBlock := by
    rcases hw with ⟨e, hg⟩ | ⟨_, hg⟩
    · rw [e]; exact hg
    · exact ⟨hg.os, hg.tape, hg.output, hg.size, fun k hk _ => hg.block k hk (by simp)⟩
  have hg2w : w'.heap[g2]? = some (.cells cur 28 (0, 0)) := (hgrow.block g2 (Nat.lt_of_lt_of_le hg2l hb3.size) (fun e => hne e.symm)).trans ((hb3.block g2 hg2l).trans hg2)
  have hfin := M3.grow (i := m) (g := g) (cap := cap) hM3 c hm (by simp only [Nat.lt_irrefl, if_false]; rw [marks_succ]; exact ho) hw
  simp only [Nat.lt_irrefl, if_false] at hfin
  have hK : upd (fun q => if q < m then k + 1 else k) m (k + 1) = fun q => if q < m + 1 then k + 1 else k := by
    funext q
    unfold upd
    by_cases e : q = m
    · subst e; rw [if_pos rfl, if_pos (by omega)]
    · rw [if_neg e]
      show (if q < m then k + 1 else k) = if q < m + 1 then k + 1 else k
      by_cases e2 : q < m
      · rw [if_pos e2, if_pos (by omega)]
      · rw [if_neg e2, if_neg (by omega)]
  rw [hK] at hfin
  exact ⟨⟨V' m, by unfold World.cell?; rw [hg2w]; exact hcur m hm⟩, by simp [World.frozen?, hg2w], _, hfin⟩

set_option maxRecDepth 100000 in
set_option maxHeartbeats 4000000 in
theorem own_any (G n c base : Nat) (V : Nat → Value) (L0 : Nat → List ByteArray) (N : Nat → Nat) (cur : Array Value) (w : World) (hn : 0 < n) (hn2 : n ≤ 4000000) (hF : Fam w base n V L0) (hN : ∀ i, i < n → (L0 i).length = N i ∧ N i ≤ 4000000)
    (hG : w.heap[G]? = some (.cells cur 28 (0, 0))) (hcur : ∀ i, i < n → cur[i]? = some (V i)) (hbase : base ≤ w.heap.size) :
    Calls Tryd.prog 21 #[.slice (some ⟨G, 0, none⟩) n c] w fun e w' => e = .returned (.bool true) ∧ Below base w w' ∧ ∀ k, k < w.heap.size → (∀ i, i < n → (V i).ownBlock ≠ some k) → w'.heap[k]? = w.heap[k]? := by
  have hGl : G < w.heap.size := by
    rcases Nat.lt_or_ge G w.heap.size with h | h
    · exact h
    · rw [Array.getElem?_eq_none h] at hG; cases hG
  have harr : ∀ wr, Fr base G n V w wr → ∀ i, i < n → wr.cell? ⟨G, i, none⟩ = some (V i) := fun wr h i hi => by
    unfold World.cell?; rw [h.arr, hG]; exact hcur i hi
  have hV : ∀ i, i < n → ∃ A c, V i = .slice A (N i) c := fun i hi => by
    obtain ⟨A, c, h⟩ := (hF.own i hi).form
    exact ⟨A, c, by rw [h, (hN i hi).1]⟩
  have H1 := Lib.hid (show M1 base G n V N w w 0 from ⟨L0, hF, fun m hm => (hN m hm).1, fun m hm => absurd hm (Nat.not_lt_zero _), rfl, Below.refl _ _, fun _ _ _ => rfl⟩)
  have HARR := Lib.hid harr; have HV := Lib.hid hV; have HG := Lib.hid hG; have HN := Lib.hid hN
  clear hF hN hG hcur harr hV
  go_enter Tryd.func21, Tryd.ntmps21
  go_wp2_with fail
  go_loopw [15, 3, 4, 5] (fun vi _ _ _ wr => ∃ i : Nat, vi = .int .i64 i ∧ i ≤ n ∧ Hid (M1 base G n V N w wr i)) (fun vi _ _ _ _ => n - (intOf vi).toNat)
  case atStart => exact ⟨0, rfl, Nat.zero_le _, H1⟩
  case round =>
    obtain ⟨i, rfl, hi, hh⟩ := hrel
    by_cases h : i < n
    · obtain ⟨L, hFam, hlen, hmk, hfr⟩ := hh.out
      obtain ⟨A1, c1, hv⟩ := HV.out i h
      have hcell := HARR.out wr hfr i h
      rw [hv] at hcell
      have hNi := (HN.out i h).2
      have HV2 := Lib.hid hv
      have H2 := Lib.hid (M2.start hh.out)
      clear hFam hlen hmk hfr hv hh
      obtain ⟨Ni, hNe⟩ : ∃ Ni, Ni = N i := ⟨_, rfl⟩
      have HNE := Lib.hid hNe
      rw [← hNe] at hcell hNi
      clear hNe
      go_wp2_with fail
      go_loopw [22, 5] (fun vj _ wx => ∃ j : Nat, vj = .int .i64 j ∧ j ≤ Ni ∧ Hid (M2 base G n V N w wx i j)) (fun vj _ _ => Ni - (intOf vj).toNat)
      case atStart => exact ⟨0, rfl, Nat.zero_le _, H2⟩
      case round =>
        obtain ⟨j, rfl, hj, hx⟩ := hrel
        by_cases h2 : j < Ni
        · obtain ⟨g, c2, hv2, ⟨u, hc⟩, hfz⟩ := M2.at hx.out h (by rw [← HNE.out]; exact h2)
          have hsz : base ≤ wr.heap.size ∧ G < wr.heap.size := by
            obtain ⟨_, _, _, _, _, d⟩ := hx.out
            have := d.bel.size
            refine ⟨by omega, World.block_lt_of_cell? wr _ (HARR.out wr d i h)⟩
          have hA1 : A1 = some ⟨g, 0, none⟩ := by
            have e := HV2.out.symm.trans hv2
            simp only [Value.slice.injEq] at e
            exact e.1
          subst hA1
          have hgl : g < wr.heap.size := World.block_lt_of_cell? wr _ hc
          have a1 := word_any i j wr
          have HX := Lib.hid (show ∀ w2, Below wr.heap.size wr w2 → M2 base G n V N w (w2.setCell ⟨g, j, none⟩ (.string (wordS (i : Int) (j : Int)))) i (j + 1) from fun w2 hb =>
            M2.mark (M2.below hx.out hb hsz.2 hsz.1) h (by rw [← HNE.out]; exact h2) hv2 HG.out)
          clear hv2 hsz hx hcell
          generalize wordS (i : Int) (j : Int) = x at *
          go_wp2_with fail
          refine a1.mono ?_
          rintro e w2 ⟨rfl, hb2⟩
          have hc2 := (hb2.cell (p := ⟨g, j, none⟩) hgl).trans hc
          have hf2 := (hb2.frozen (p := ⟨g, j, none⟩) hgl).trans hfz
          have HW := Lib.hid (HX.out w2 hb2)
          clear hb2 a1 hc hfz
          go_wp2
          go_roundw
          case rel => exact ⟨j + 1, by go_num, by omega, HW⟩
          case measure => simp [intOf]; omega
        · obtain rfl : j = Ni := by omega
          have HD := Lib.hid (show M1 base G n V N w wr (i + 1) from M2.done (by rw [← HNE.out]; exact hx.out) h)
          clear hx hcell
          go_wp2
          go_roundw
          case rel => exact ⟨i + 1, by go_num, by omega, HD⟩
          case measure => simp [intOf]; omega
    · obtain rfl : i = n := by omega
      obtain ⟨i0, hi0, hz0, hz1, hz2⟩ := info_parts info28
      have hcells : ∀ j, j < i → wr.cell? ⟨G, j, none⟩ = some (V j) := by
        obtain ⟨_, _, _, _, d⟩ := hh.out
        exact fun j hj => HARR.out wr d j hj
      have hGw : G < wr.heap.size := World.block_lt_of_cell? wr _ (hcells 0 hn)
      have hown0 : (wr.alloc (.cells #[] 28)).ownsRow wr.heap.size 28 1 (.slice (some ⟨wr.heap.size, 0, none⟩) 0 0) 0 [] := World.ownsRow_made wr #[] 0 (Nat.le_refl _) (by unfold maxLen; omega) rfl
      have hnews : ∀ j u, (vals V i)[j]? = some u → (wr.alloc (.cells #[] 28)).cell? ((⟨G, 0, none⟩ : Addr).add j) = some u := fun j u hu => by
        have hj : j < i := by
          rcases Nat.lt_or_ge j i with h | h
          · exact h
          · rw [List.getElem?_eq_none (by rw [vals_length]; exact h)] at hu; cases hu
        rw [vals_at hj] at hu
        rw [show (⟨G, 0, none⟩ : Addr).add j = ⟨G, j, none⟩ by unfold Addr.add; split <;> simp_all]
        exact ((Below.new wr _).cell (p := ⟨G, j, none⟩) hGw).trans ((hcells j hj).trans hu)
      have hone : ∀ u ∈ vals V i, u.oneCell' = true := fun u hu => by
        unfold vals at hu
        obtain ⟨m, hm, rfl⟩ := List.mem_map.1 hu
        obtain ⟨A, c', hv⟩ := HV.out m (List.mem_range.1 hm)
        rw [hv]; rfl
      have HC := Lib.hid hcells
      clear hcells
      go_wp2_with (first | (at_builtin; refine wpList_append_lies _ rfl _ _ 41 rfl wr.heap.size 28 i0 (.slice none 0 0) 1 24 Tryd.underlying41 hi0 hz0 hz1 hz2 rfl (by decide) _ 0 [] rfl hown0 ⟨G, 0, none⟩ i c (vals V i) rfl (by rw [vals_length, Nat.mul_one]) hnews hone hn (by unfold maxLen; omega) (by omega) (by simp) _ rfl ?_))
      intro g2 cap2 w2 ho2 hgr2 hat2 hg2l
      have hsz : base ≤ wr.heap.size := by
        obtain ⟨_, _, _, _, d⟩ := hh.out
        exact Nat.le_trans hbase d.bel.size
      have hg2Z : wr.heap.size ≤ g2 := by
        rcases hat2 with h | h
        · have : some wr.heap.size = some g2 := h
          have := Option.some.inj this; omega
        · omega
      have HM := Lib.hid (show ∃ V', M3 base G g2 i wr.heap.size V N w w2 (fun _ => 0) V' from ⟨V, M3.start hh.out hsz hGw ho2 hgr2 (fun k hk => by have : some wr.heap.size = some k := hk; have := Option.some.inj this; omega)⟩)
      have HC3 := Lib.hid (show C3 base G g2 i wr.heap.size V w from C3.start hh.out hsz hGw hg2Z HG.out)
      obtain ⟨Z, hZ⟩ : ∃ Z, Z = wr.heap.size := ⟨_, rfl⟩
      rw [← hZ] at HM HC3
      clear ho2 hgr2 hat2 hg2l hown0 hnews hone HC hh hGw hsz hg2Z hZ hi0 hz0 hz1 hz2
      go_wp2_with fail
      go_loopw [7, 8, 9] (fun vk _ _ wx => ∃ k : Nat, vk = .int .i64 k ∧ k ≤ 80 ∧ Hid (∃ V', M3 base G g2 i Z V N w wx (fun _ => k) V')) (fun vk _ _ _ => 80 - (intOf vk).toNat)
      case atStart => exact ⟨0, rfl, by omega, HM⟩
      case round =>
        obtain ⟨k, rfl, hk, hx⟩ := hrel
        cases t : decide ((k : Int) < 80) with
        | true =>
          have t' := of_decide_eq_true t
          have HX0 := Lib.hid (show ∃ V', M3 base G g2 i Z V N w _ (fun q => if q < 0 then k + 1 else k) V' from by
            obtain ⟨V', h⟩ := hx.out
            exact ⟨V', by simpa using h⟩)
          clear hx
          go_wp2_with fail
          go_loopw [42, 8, 9] (fun vm _ _ wx => ∃ m : Nat, vm = .int .i64 m ∧ m ≤ i ∧ Hid (∃ V', M3 base G g2 i Z V N w wx (fun q => if q < m then k + 1 else k) V')) (fun vm _ _ _ => i - (intOf vm).toNat)
          case atStart => exact ⟨0, rfl, by omega, HX0⟩
          case round =>
            obtain ⟨m, rfl, hm, hy⟩ := hrel
            by_cases h2 : m < i
            · obtain ⟨A, cp, hc, hfz, hg2l, hbw, hr⟩ := M3.round hy.out HC3.out h2
              have hNm := (HN.out m h2).2
              have HR := Lib.hid hr
              obtain ⟨l, hl⟩ : ∃ l, l = N m + k := ⟨_, rfl⟩
              have hl2 : l ≤ 5000000 := by omega
              have hwl : wrap64 (l : Int) = l := by unfold wrap64; omega
              rw [← hl] at hc hr
              have HR2 := Lib.hid hr
              clear hr HR hy hl hNm
              have hc' : wr.drew.cell? ⟨g2, m, none⟩ = some (.slice A l cp) := hc
              have a1 := word_any m l wr.drew
              have hml := marks_length m l
              have HML := Lib.hid hml; clear hml
              generalize marks m l = L2 at *
              generalize wordS (m : Int) (l : Int) = x at *
              go_wp2_with fail
              have hlen : L2.length + 1 ≤ 8796093022208 := by rw [HML.out]; omega
              go_region_law (first
                | (refine step_grew rfl _ _ rfl base (.slice A l cp) L2 ?_ hown3 w3.heap.size x ?_ (new_at _ _ _ rfl) hlen hbw3 ?_; rfl; rfl; rw [HML.out]; intro g cap w' ho hw; have hq := HQ3 g cap w' ho hw; obtain ⟨⟨u, hcu⟩, hfu, hfin⟩ := hq)
                | (go_simp; go_at_call 45; refine a1.mono ?_; rintro e w3 ⟨rfl, hb3⟩; have hc3 := (hb3.cell (p := ⟨g2, m, none⟩) hg2l).trans hc'; have hc4 := ((Below.new w3 (.cells #[.string x] 9)).cell (p := ⟨g2, m, none⟩) (Nat.lt_of_lt_of_le hg2l hb3.size)).trans hc3; have hbA := ((below_drew1 wr).trans hb3).trans ((Below.new w3 (.cells #[.string x] 9)).mono hb3.size); have hown3 := (HR2.out _ hbA).1; have hbw3 := Nat.le_trans hbw hbA.size; have HQ3 := (HR2.out _ hbA).2))
              all_goals
                have HFIN := Lib.hid hfin
                clear hfin hcu hfu hw ho HQ3 hown3 hbw3 hbA hc4 hc3 hb3 hc' hc
                go_wp2
                go_roundw
                case rel => exact ⟨m + 1, by go_num, by omega, HFIN⟩
                case measure => simp [intOf]; omega
            · obtain rfl : m = i := by omega
              have HY := Lib.hid (show ∃ V', M3 base G g2 m Z V N w _ (fun _ => k + 1) V' from by
                obtain ⟨V', h⟩ := hy.out
                exact ⟨V', h.kcongr (fun q hq => if_pos hq)⟩)
              clear hy
              go_wp2
              go_roundw
              case rel => exact ⟨k + 1, by go_num, by omega, HY⟩
              case measure => simp [intOf]; omega
        | false =>
          have hk80 : k = 80 := by have := of_decide_eq_false t; omega
          go_wp2_with fail
          obtain ⟨V', hM⟩ := hx.out
          have HM3 := Lib.hid (show M3 base G g2 i Z V N w _ (fun _ => 80) V' from by rw [hk80] at hM; exact hM)
          clear hx hM t hk hk80
          go_loopw [65, 10, 11, 12] (fun vm _ _ _ wx => ∃ m : Nat, vm = .int .i64 m ∧ m ≤ i ∧ Hid (M3 base G g2 i Z V N w wx (fun _ => 80) V')) (fun vm _ _ _ _ => i - (intOf vm).toNat)
          case atStart => exact ⟨0, rfl, by omega, HM3⟩
          case round =>
            obtain ⟨m, rfl, hm, hy⟩ := hrel
            by_cases h2 : m < i
            · obtain ⟨q, cq, hcq, _, _⟩ := M3.look hy.out h2
              obtain ⟨A1, c1, hv⟩ := HV.out m h2
              have hNm := (HN.out m h2).2
              have HVM := Lib.hid hv
              have HARR2 := Lib.hid (show ∀ wx, M3 base G g2 i Z V N w wx (fun _ => 80) V' → wx.cell? ⟨G, m, none⟩ = some (.slice A1 (N m) c1) from fun wx h => (HARR.out wx h.frm m h2).trans (by rw [hv]))
              have HLK := Lib.hid (show ∀ wx, M3 base G g2 i Z V N w wx (fun _ => 80) V' → wx.cell? ⟨g2, m, none⟩ = some (.slice (some ⟨q, 0, none⟩) (N m + 80) cq) → q < wx.heap.size ∧ ∀ j, j < N m + 80 → wx.cell? ⟨q, j, none⟩ = some (.string (wordS (m : Int) (j : Int))) from fun wx h hc => by
                obtain ⟨q', c', h1, h3, h4⟩ := M3.look h h2
                rw [hc] at h1
                have e := Option.some.inj h1
                simp only [Value.slice.injEq, Option.some.injEq, Addr.mk.injEq, and_true, true_and] at e
                obtain ⟨rfl, _⟩ := e
                exact ⟨h3, h4⟩)
              have HOLD := Lib.hid (show ∀ wx, M3 base G g2 i Z V N w wx (fun _ => 80) V' → ∀ j, j < N m → ∃ q1, A1 = some ⟨q1, 0, none⟩ ∧ wx.cell? ⟨q1, j, none⟩ = some (.string (wordS (m : Int) (j : Int))) from fun wx h j hj => by
                obtain ⟨L, hF, hl, _, _⟩ := H1.out
                have ho := hF.own m h2
                rw [hv] at ho
                obtain ⟨_, h5⟩ := ho.sl
                obtain ⟨q1, rfl, _, _, _⟩ := h5 (by rw [hl m h2]; omega)
                exact ⟨q1, rfl, h.old m h2 q1 c1 hv j hj⟩)
              have HARR2c := Lib.hid (show ∀ wx wy, M3 base G g2 i Z V N w wx (fun _ => 80) V' → M3 base G g2 i Z V N w wy (fun _ => 80) V' → wy.cell? ⟨g2, m, none⟩ = wx.cell? ⟨g2, m, none⟩ from fun wx wy h h' => by
                obtain ⟨cx, a1, b1⟩ := h.arr
                obtain ⟨cy, a2, b2⟩ := h'.arr
                unfold World.cell?
                rw [a1, a2]
                exact (b2 m h2).trans (b1 m h2).symm)
              have HY := hy
              clear hv hy
              go_wp2_with fail
              go_loopw [72, 12] (fun vj _ wx => ∃ j : Nat, vj = .int .i64 j ∧ j ≤ N m + 80 ∧ Hid (M3 base G g2 i Z V N w wx (fun _ => 80) V')) (fun vj _ _ => N m + 80 - (intOf vj).toNat)
              case atStart => exact ⟨0, rfl, by omega, HY⟩
              case round =>
                obtain ⟨j, rfl, hj, hx⟩ := hrel
                have hcx := (HARR2c.out _ _ HY.out hx.out).trans hcq
                have hax := HARR2.out _ hx.out
                obtain ⟨hql, hlk⟩ := HLK.out _ hx.out hcx
                by_cases h3 : j < N m + 80
                · have hqj := hlk j h3
                  have a1 := Lib.hid (word_any m j wr.drew)
                  have g2l : g2 < wr.heap.size := World.block_lt_of_cell? wr _ hcx
                  have HBX := Lib.hid (show ∀ w3, Below wr.drew.heap.size wr.drew w3 → M3 base G g2 i Z V N w w3 (fun _ => 80) V' from fun w3 hb => hx.out.below HC3.out ((below_drew1 wr).trans hb))
                  have hcx' : wr.drew.cell? ⟨g2, m, none⟩ = some (.slice (some ⟨q, 0, none⟩) (N m + 80) cq) := hcx
                  clear hax hlk hx hcx
                  have hOL := Lib.hid (show ∀ wx, M3 base G g2 i Z V N w wx (fun _ => 80) V' → decide (j < N m) = true → ∃ q1, A1 = some ⟨q1, 0, none⟩ ∧ wx.cell? ⟨q1, j, none⟩ = some (.string (wordS (m : Int) (j : Int))) from fun wx h hd => HOLD.out wx h j (of_decide_eq_true hd))
                  generalize wordS (m : Int) (j : Int) = x at *
                  have hlt1 : (j : Int) < ((N m + 80 : Nat) : Int) := by omega
                  have hkne : decide (x = x) = true := decide_eq_true rfl
                  go_wp2_with fail
                  go_region_law (go_simp; go_at_call 45; refine a1.out.mono ?_; rintro e w3 ⟨rfl, hb3⟩; have k1 := (hb3.cell (p := ⟨g2, m, none⟩) g2l).trans hcx'; have k2 := (hb3.cell (p := ⟨q, j, none⟩) hql).trans hqj)
                  all_goals
                    have HM4 := HBX.out w3 hb3
                    have hax3 := HARR2.out w3 HM4
                    have hO3 := hOL.out w3 HM4
                    have HM5 := Lib.hid HM4
                    clear HM4 hb3 a1 hOL HBX hcx' hqj g2l hkne k1
                    cases t : decide (j < N m) with
                    | true =>
                      obtain ⟨q1, rfl, hq1⟩ := hO3 t
                      have t' := of_decide_eq_true t
                      have t2 : (j : Int) < ((N m : Nat) : Int) := by omega
                      clear hO3
                      go_wp2_with fail
                      go_quiet (fail)
                      go_wp2
                      go_roundw
                      case rel => exact ⟨j + 1, by go_num, by omega, HM5.out.below HC3.out (below_drewN (Below.refl _ _) _)⟩
                      case measure => simp [intOf]; omega
                    | false =>
                      have t' := of_decide_eq_false t
                      have t2 : ¬ (j : Int) < ((N m : Nat) : Int) := by omega
                      clear hO3
                      go_wp2_with fail
                      go_quiet (fail)
                      go_wp2
                      go_roundw
                      case rel => exact ⟨j + 1, by go_num, by omega, HM5.out.below HC3.out (below_drewN (Below.refl _ _) _)⟩
                      case measure => simp [intOf]; omega
                · obtain rfl : j = N m + 80 := by omega
                  clear hlk
                  have HX := hx
                  clear hx
                  go_wp2
                  go_roundw
                  case rel => exact ⟨m + 1, by go_num, by omega, HX⟩
                  case measure => simp [intOf]; omega
            · go_wp2
              go_ret
              exact ⟨rfl, hy.out.frm.bel, hy.out.frm.far⟩
end Go.Proofs.YtnodjcapclkmhaaDoor
