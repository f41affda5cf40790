/- WireBack, walked: what is written is read by the calls of the same names. -/
import Derived.Test.YtnodjcapclkmhaaDoorRowO
namespace Go.Proofs.YtnodjcapclkmhaaDoor
open Go.RowKit

/-- The first loop's facts: the Writer (at h) has the bytes of the list, the list is the call's own and apart from the Writer. -/
structure Wb (B h : Nat) (w1 wr : World) (v : Value) (L : List OpV) : Prop where
  wri : ∃ r, Wri wr B h (allL L) r ∧ (v.ownBlock = none ∨ v.ownBlock ≠ r)
  own : ownsO wr B v L
  far : v.ownBlock ≠ some h
  bel : Below B w1 wr
/-- The second loop's facts. -/
structure Rb (B' g : Nat) (S : ByteArray) (w5 wr : World) (p : Nat) : Prop where
  rdr : Rdr wr g S p
  bel : Below B' w5 wr
theorem putL_nil {o : OpV} (h : okK o = false) : putL o = [] := by
  have hk : o.k < 1 ∨ 8 < o.k := by
    unfold okK at h
    rcases Bool.and_eq_false_iff.1 h with h | h
    · have := of_decide_eq_false h; omega
    · have := of_decide_eq_false h; omega
  unfold putL
  rw [if_neg (by omega), if_neg (by omega), if_neg (by omega), if_neg (by omega), if_neg (by omega), if_neg (by omega), if_neg (by omega), if_neg (by omega)]
theorem pre_own {xs : List Int} (h : byteL xs) : Pre (strOfNums xs) 0 xs := ⟨by rw [strOfNums_size]; omega, rng_str h⟩
theorem below_grownO {B : Nat} {w wr w2 : World} {b : Option Nat} (h : Below B w wr) (hB : B ≤ wr.heap.size) (hg : wr.grownBy w2 b) (hb : ∀ k, b = some k → B ≤ k) : Below B w w2 := below_grown h hB hg hb

set_option maxRecDepth 100000 in
set_option maxHeartbeats 8000000 in
theorem back_walk (Bf : Nat → Addr) (A : Option Addr) (n c : Nat) (ops : Nat → OpV) (w : World) (hE : Env w Bf) (hO : Ops w A n ops) (hn : n ≤ 4000000) (hT : wsum ops n ≤ 100000000)
    (hZ : ∀ i, i < n → (ops i).s.size ≤ 4000000 ∧ (ops i).ln ≤ 4000000 ∧ ∀ j, j < (ops i).ln → ((ops i).ss j).size ≤ 4000000) :
    Calls Tryd.prog 6 #[.slice A n c] w fun e w' => e = .returned (.bool true) ∧ Below w.heap.size w w' := by
  have HE := Lib.hid hE; have HO := Lib.hid hO; have HT := Lib.hid hT; have HZ := Lib.hid hZ; clear hE hO hT hZ
  have hpl := pick_len ops n
  have hpa := Nat.le_trans (pick_all ops n) HT.out
  have HPL := Lib.hid hpl; have HPA := Lib.hid hpa; clear hpl hpa
  go_enter Tryd.func6, Tryd.ntmps6
  go_wp2_with fail
  refine (fixed_fact Bf _ HE.out).mono ?_
  rintro e w1 ⟨rfl, hb1⟩
  have hsz1 := hb1.size
  have HB1 := Lib.hid hb1; clear hb1
  go_wp2_with fail
  refine (new_any _).mono ?_
  rintro e w' ⟨rfl, rfl⟩
  have hn2 := Below.new w1 (.cells #[.slice none 0 0] 71)
  have hW2 := new_buf w1 w1.heap.size 71 5 (Nat.le_refl _)
  have HE1 := Lib.hid (HE.out.below HB1.out)
  obtain ⟨B, hBe⟩ : ∃ B, B = w1.heap.size := ⟨_, rfl⟩
  rw [← hBe] at hn2 hW2 hsz1 ⊢
  have hB1 : B ≤ w1.heap.size := by omega
  have hB1e : w1.heap.size ≤ B := by omega
  have hB2 := Nat.le_trans hB1 hn2.size
  have HW2 := Lib.hid hW2; have HN2 := Lib.hid hn2
  generalize w1.alloc (.cells #[.slice none 0 0] 71) = w2 at *
  clear hBe hn2 hW2
  go_wp2_with fail
  go_loopw [18, 4, 6] (fun vi vl _ wr => ∃ k : Nat, vi = .int .i64 k ∧ k ≤ n ∧ Hid (Wb B B w1 wr vl (pick ops k))) (fun vi _ _ _ => n - (intOf vi).toNat)
  case atStart => exact ⟨0, rfl, Nat.zero_le _, ⟨none, HW2.out, .inl rfl⟩, ownsO.nil _ _, by simp [Value.ownBlock], HN2.out⟩
  case round =>
    obtain ⟨k, rfl, hk, hh⟩ := hrel
    by_cases h : k < n
    · obtain ⟨gs, os, rfl, hgs, hcs⟩ := HO.out (by omega)
      obtain ⟨c0, c1, c2, c3, c4, c5, c6, c7, hOk, hTv, hAb, hln⟩ := hcs k h
      have hlow : Below w.heap.size w wr := HB1.out.trans (hh.out.bel.mono hsz1)
      have hg : ∀ (j : Nat) (v : Value), w.cell? ⟨gs, os + k * 8 + j, none⟩ = some v → wr.cell? ⟨gs, os + k * 8 + j, none⟩ = some v := fun j v hv => (hlow.cell (by exact hgs)).trans hv
      have d0 := hg 0 _ c0; have d1 := hg 1 _ c1; have d2 := hg 2 _ c2; have d3 := hg 3 _ c3; have d4 := hg 4 _ c4; have d5 := hg 5 _ c5; have d6 := hg 6 _ c6; have d7 := hg 7 _ c7
      rw [Nat.add_zero] at d0
      have hle1 : (allL (pick ops k)).length + (putL (ops k)).length ≤ 100000000 := by
        have h1 := pick_all ops k
        have h2 := wsum_mono ops (show k + 1 ≤ n by omega)
        have h3 : wsum ops (k + 1) = wsum ops k + (putL (ops k)).length := rfl
        have := HT.out
        omega
      have hpk := pick_len ops k
      have HPS := Lib.hid (show pick ops (k + 1) = if okK (ops k) then pick ops k ++ [ops k] else pick ops k from rfl)
      have HCS := Lib.hid hcs
      clear hcs hg c0 c1 c2 c3 c4 c5 c6 c7
      obtain ⟨o, hoe⟩ : ∃ o, o = ops k := ⟨_, rfl⟩
      rw [← hoe] at d0 d1 d2 d3 d4 d5 d6 d7 hOk hTv hAb hln hle1
      have HPS2 := Lib.hid (show pick ops (k + 1) = if okK o then pick ops k ++ [o] else pick ops k by rw [hoe]; rfl)
      clear hoe HPS
      obtain ⟨L, hLe⟩ : ∃ L, L = pick ops k := ⟨_, rfl⟩
      rw [← hLe] at hh hle1 hpk
      have HPS3 := Lib.hid (show pick ops (k + 1) = if okK o then L ++ [o] else L by rw [hLe]; exact HPS2.out)
      clear hLe HPS2
      have hnew := Below.new wr (.cells #[.int .i64 o.k, .bool o.sec, .int .u64 o.u, .int .i64 o.i, .int .i64 o.n, .int .i64 o.m, .string o.s, .slice o.A o.ln o.lc] 30)
      have hbx := box_cells wr (.int .i64 o.k) (.bool o.sec) (.int .u64 o.u) (.int .i64 o.i) (.int .i64 o.n) (.int .i64 o.m) (.string o.s) (.slice o.A o.ln o.lc)
      obtain ⟨r, hWr, hvr⟩ := hh.out.wri
      have hWl := hWr.lt
      have hszw : B ≤ wr.heap.size := by omega
      have hbelA := hh.out.bel.trans (hnew.mono hszw)
      have a1 := write_any B B (allL L) r o _ (hWr.below hnew) hOk ⟨hTv.1, hTv.2.below hAb (hlow.trans (hnew.mono (by omega)))⟩ (fun h a e => by have := hAb h a e; omega) (by omega) (by rw [List.length_append]; omega)
      have hv : o.val = .agg #[.int .i64 o.k, .bool o.sec, .int .u64 o.u, .int .i64 o.i, .int .i64 o.n, .int .i64 o.m, .string o.s, .slice o.A o.ln o.lc] := rfl
      rw [hv] at a1
      have hownA := World.ownsRow.alloc hh.out.own (.cells #[.int .i64 o.k, .bool o.sec, .int .u64 o.u, .int .i64 o.i, .int .i64 o.n, .int .i64 o.m, .string o.s, .slice o.A o.ln o.lc] 30)
      have hOw := Lib.hid hh.out.own
      have HBA := Lib.hid hbelA; have HOA := Lib.hid (show ownsO _ B u4 L from hownA); have HBX := Lib.hid hbx; have HFAR := Lib.hid hh.out.far; have HVR := Lib.hid hvr; have HWL := Lib.hid hWl
      have hrb : ∀ q, r = some q → q < wr.heap.size := fun q hq => (hWl.2.2 q hq).2
      have HRB := Lib.hid hrb
      have hsA : (wr.alloc (.cells #[.int .i64 o.k, .bool o.sec, .int .u64 o.u, .int .i64 o.i, .int .i64 o.n, .int .i64 o.m, .string o.s, .slice o.A o.ln o.lc] 30)).heap.size = wr.heap.size + 1 := by simp
      have HSA := Lib.hid hsA
      clear hnew hbx hWr hvr hWl hbelA hv hownA hrb hsA hTv hAb hOk hlow
      have hvlt := World.ownsRow.lt hOw.out
      cases hok : okK o with
      | false =>
        rw [hok] at a1
        have HPN := Lib.hid (putL_nil hok)
        go_wp2_with fail
        refine a1.mono ?_
        rintro e w3 ⟨rfl, r3, h1, h2⟩
        have hO3 := HOA.out.wrote h2 HFAR.out HVR.out
        have hB3 := HBA.out.trans (h2.below (by have := HSA.out; omega) (Nat.le_refl _) (fun q hq => (HWL.out.2.2 q hq).1))
        have hv3 : u4.ownBlock = none ∨ u4.ownBlock ≠ r3 := by
          rcases h2.row with e | ⟨q, e, hq⟩
          · rw [e]; exact HVR.out
          · cases hob : u4.ownBlock with
            | none => exact .inl rfl
            | some z => right; rw [e]; intro e2; have := Option.some.inj e2; have := (hvlt z hob).2; have := HSA.out; omega
        rw [HPN.out, List.append_nil] at h1
        have HW := Lib.hid (show Wb B B w1 w3 u4 L from ⟨⟨r3, h1, hv3⟩, hO3, HFAR.out, hB3⟩)
        have HPQ := Lib.hid (show pick ops (k + 1) = L by rw [HPS3.out, hok]; rfl)
        clear h1 h2 hO3 hB3 hv3 a1 hvlt
        go_wp2
        go_roundw
        case rel => exact ⟨k + 1, by go_num, by omega, by rw [HPQ.out]; exact HW⟩
        case measure => simp [intOf]; omega
      | true =>
        rw [hok] at a1
        go_wp2_with fail
        refine a1.mono ?_
        rintro e w3 ⟨rfl, r3, h1, h2⟩
        have hO3 := HOA.out.wrote h2 HFAR.out HVR.out
        have hB3 := HBA.out.trans (h2.below (by have := HSA.out; omega) (Nat.le_refl _) (fun q hq => (HWL.out.2.2 q hq).1))
        have hv3 : u4.ownBlock = none ∨ u4.ownBlock ≠ r3 := by
          rcases h2.row with e | ⟨q, e, hq⟩
          · rw [e]; exact HVR.out
          · cases hob : u4.ownBlock with
            | none => exact .inl rfl
            | some z => right; rw [e]; intro e2; have := Option.some.inj e2; have := (hvlt z hob).2; have := HSA.out; omega
        have hbx3 := (h2.block wr.heap.size (by have := HSA.out; omega) (by have := HWL.out.2.1; omega) (fun e => by have := HRB.out _ e.symm; omega)).trans HBX.out
        obtain ⟨c0, c1, c2, c3, c4, c5, c6, c7⟩ := box8 hbx3
        have hw3 := h1.lt
        have hsz3 : B ≤ w3.heap.size := by omega
        have H1 := Lib.hid h1; have HB3 := Lib.hid hB3; have HV3 := Lib.hid hv3; have HW3 := Lib.hid hw3
        have hvlt3 := World.ownsRow.lt hO3
        clear h1 h2 hB3 hv3 a1 hvlt hbx3 hw3
        go_wp2_with (first | (at_builtin; refine append_op rfl _ _ rfl B _ L rfl hO3 o rfl (by omega) hsz3 ?_))
        intro k' cap w4 ho4 hgr hat
        have hbuf := H1.out.grown hgr HFAR.out HV3.out
        have hb4 := below_grownO HB3.out hsz3 hgr (fun q hq => (hvlt3 q hq).1)
        have hfar : (Value.slice (some ⟨k', 0, none⟩) (L.length + 1) cap).ownBlock ≠ some B := by
          show some k' ≠ some B
          rcases hat with e | e
          · rw [← e]; exact HFAR.out
          · intro e2; have := Option.some.inj e2; have := HW3.out.2.1; omega
        have hvr4 : (Value.slice (some ⟨k', 0, none⟩) (L.length + 1) cap).ownBlock = none ∨ (Value.slice (some ⟨k', 0, none⟩) (L.length + 1) cap).ownBlock ≠ r3 := by
          right
          show some k' ≠ r3
          rcases hat with e | e
          · rcases HV3.out with e3 | e3
            · rw [e3] at e; cases e
            · rw [← e]; exact e3
          · intro e2; have := (HW3.out.2.2 _ e2.symm).2; omega
        have HW := Lib.hid (show Wb B B w1 w4 (.slice (some ⟨k', 0, none⟩) (L.length + 1) cap) (L ++ [o]) from
          ⟨⟨r3, by rw [allL_app]; show Wri w4 B B (allL L ++ (putL o ++ [])) r3; rw [List.append_nil]; exact hbuf, hvr4⟩, ho4, hfar, hb4⟩)
        have HPQ := Lib.hid (show pick ops (k + 1) = L ++ [o] by rw [HPS3.out, hok]; rfl)
        clear hbuf hb4 hfar hvr4 ho4 hgr hat hO3 hvlt3 c0 c1 c2 c3 c4 c5 c6 c7
        go_wp2
        go_roundw
        case rel => exact ⟨k + 1, by go_num, by omega, by rw [HPQ.out]; exact HW⟩
        case measure => simp [intOf]; omega
    · obtain rfl : k = n := by omega
      have hF : ∀ o ∈ pick ops k, o.Ok ∧ Tv w o.A o.ln o.lc o.ss ∧ (0 < o.ln → ∀ a, o.A = some a → a.block < w.heap.size) ∧ okK o = true ∧ o.ln ≤ 4000000 ∧ ∀ j, j < o.ln → (o.ss j).size ≤ 4000000 := by
        intro o ho
        obtain ⟨i, hi, rfl, hok⟩ := mem_pick ho
        obtain ⟨gs, os, _, hgs, hcs⟩ := HO.out (by omega)
        obtain ⟨_, _, _, _, _, _, _, _, hOk, hTv, hAb, _⟩ := hcs i hi
        exact ⟨hOk, hTv, hAb, hok, (HZ.out i hi).2.1, (HZ.out i hi).2.2⟩
      have HF := Lib.hid hF
      obtain ⟨r, hWr, _⟩ := hh.out.wri
      have hown := hh.out.own
      have hbel := hh.out.bel
      obtain ⟨P, hPe⟩ : ∃ P, P = pick ops k := ⟨_, rfl⟩
      have HF2 := Lib.hid (show ∀ o ∈ P, o.Ok ∧ Tv w o.A o.ln o.lc o.ss ∧ (0 < o.ln → ∀ a, o.A = some a → a.block < w.heap.size) ∧ okK o = true ∧ o.ln ≤ 4000000 ∧ ∀ j, j < o.ln → (o.ss j).size ≤ 4000000 by rw [hPe]; exact HF.out)
      have hPA := HPA.out
      have hPL := HPL.out
      rw [← hPe] at hWr hown hPA hPL
      obtain ⟨A4, c4, rfl⟩ := hown.form
      have a2 := out_any B B (allL P) r wr hWr
      have a3 := len_any B B (allL P) r
      have hszr : B ≤ wr.heap.size := by have := hWr.lt.2.1; omega
      have HWr := Lib.hid hWr; have HOW := Lib.hid hown; have HBEL := Lib.hid hbel
      have hS0 : (strOfNums (allL P)).size = (allL P).length := strOfNums_size _
      have hP0 := pre_own (byteL_all P)
      clear hF hWr hown hbel HF hPe hh HPA HPL HT HZ hk h
      go_wp2_with fail
      refine a2.mono ?_
      rintro e w' ⟨rfl, rfl⟩
      obtain ⟨S, hSe⟩ : ∃ S, S = strOfNums (allL P) := ⟨_, rfl⟩
      rw [← hSe] at hS0 hP0 ⊢
      have HS := Lib.hid hS0; have HP := Lib.hid hP0
      have hSL : S.size ≤ 100000000 := by omega
      clear hS0 hP0 hSe a2
      go_wp2_with fail
      refine (read_any S _).mono ?_
      rintro e w' ⟨rfl, rfl⟩
      have hR6 := new_rdr wr S
      have hn6 := Below.new wr (.cells #[.string S, .int .i64 0] 85)
      have hEw := HE1.out.below (HBEL.out.mono hB1e)
      obtain ⟨g, hg⟩ : ∃ g, g = wr.heap.size := ⟨_, rfl⟩
      rw [← hg] at hR6 hn6 ⊢
      have HEB := Lib.hid (show EnvB g wr Bf from ⟨wr, hEw, hg.symm, Below.refl _ _⟩)
      have hbw : B ≤ g := by omega
      have hR6' := Lib.hid hR6
      have hN6 := Lib.hid hn6
      have hgl : g ≤ wr.heap.size := by omega
      have hgl2 : wr.heap.size ≤ g := by omega
      have hWr6 := (HWr.out.below (hn6.mono hgl2))
      have a3' := a3 _ hWr6
      have HLW : Hid (w.heap.size ≤ g) := Lib.hid (by omega)
      have HBW := Lib.hid (HB1.out.trans (HBEL.out.mono hsz1))
      generalize wr.alloc (.cells #[.string S, .int .i64 0] 85) = w6 at *
      have hSe : (allL P).length = S.size := HS.out.symm
      rw [hSe] at a3'
      clear hg hR6 hn6 hEw hWr6 a3 hSe
      go_wp2_with fail
      refine a3'.mono ?_
      rintro e w' ⟨rfl, rfl⟩
      clear a3'
      go_wp2_with fail
      go_loopw [45, 10] (fun vi _ wx => ∃ j : Nat, vi = .int .i64 j ∧ j ≤ P.length ∧ Hid (Rb g g S wr wx (allL (P.take j)).length)) (fun vi _ _ => P.length - (intOf vi).toNat)
      case atStart => exact ⟨0, rfl, Nat.zero_le _, hR6'.out, hN6.out⟩
      case round =>
        obtain ⟨j, rfl, hj, hx⟩ := hrel
        by_cases h : j < P.length
        · obtain ⟨g', rfl, hg', hc⟩ := HOW.out.at h
          have hcell : ∀ i u, i < 8 → (opC P[j])[i]? = some u → wr.cell? ⟨g', j * 8 + i, none⟩ = some u := fun i u hi hu => (hx.out.bel.cell (p := ⟨g', j * 8 + i, none⟩) (show g' < g by omega)).trans (hc i u hi hu)
          have hfo := HF2.out P[j] (List.getElem_mem h)
          have hPre := Pre.at P j h HP.out
          rw [Nat.zero_add] at hPre
          have htk : (allL (P.take (j + 1))).length = (allL (P.take j)).length + (putL P[j]).length := by
            rw [List.take_succ_eq_append_getElem h, allL_app, List.length_append]
            show _ + (putL P[j] ++ []).length = _
            rw [List.append_nil]
          have HTK := Lib.hid htk
          obtain ⟨o, ho⟩ : ∃ o, o = P[j] := ⟨_, rfl⟩
          have HTK2 := Lib.hid (show (allL (P.take (j + 1))).length = (allL (P.take j)).length + (putL o).length by rw [ho]; exact HTK.out)
          rw [← ho] at hcell hfo hPre
          obtain ⟨hOk, hTv, hAb, hok, hln, hz⟩ := hfo
          have d0 := hcell 0 (.int .i64 o.k) (by decide) rfl
          have d1 := hcell 1 (.bool o.sec) (by decide) rfl
          have d2 := hcell 2 (.int .u64 o.u) (by decide) rfl
          have d3 := hcell 3 (.int .i64 o.i) (by decide) rfl
          have d4 := hcell 4 (.int .i64 o.n) (by decide) rfl
          have d5 := hcell 5 (.int .i64 o.m) (by decide) rfl
          have d6 := hcell 6 (.string o.s) (by decide) rfl
          have d7 := hcell 7 (.slice o.A o.ln o.lc) (by decide) rfl
          rw [Nat.add_zero] at d0
          clear hcell hc HTK htk ho
          obtain ⟨p, hpe⟩ : ∃ p, p = (allL (P.take j)).length := ⟨_, rfl⟩
          have HTK3 := Lib.hid (show (allL (P.take (j + 1))).length = p + (putL o).length by rw [hpe]; exact HTK2.out)
          rw [← hpe] at hx hPre
          clear HTK2 hpe
          have hnew := Below.new wr (.cells #[.int .i64 o.k, .bool o.sec, .int .u64 o.u, .int .i64 o.i, .int .i64 o.n, .int .i64 o.m, .string o.s, .slice o.A o.ln o.lc] 30)
          have hszx := hx.out.bel.size
          have hbelA := hx.out.bel.trans (hnew.mono (by omega))
          have hlw := HLW.out
          have a1 := reads_any Bf g g S p o _ (HEB.out.below hbelA) (Nat.le_refl _) (hx.out.rdr.below hnew) (by have := hPre.1; omega) (by omega) hOk hok hPre ⟨hTv.1, hTv.2.below hAb (HBW.out.trans (hbelA.mono hlw))⟩ (fun h a e => by have := hAb h a e; omega) (by omega) (fun i hi => by have := hz i hi; omega)
          have hv : o.val = .agg #[.int .i64 o.k, .bool o.sec, .int .u64 o.u, .int .i64 o.i, .int .i64 o.n, .int .i64 o.m, .string o.s, .slice o.A o.ln o.lc] := rfl
          rw [hv] at a1
          have HBA := Lib.hid hbelA
          clear hnew hbelA hv hOk hTv hAb hz hPre
          go_wp2_with fail
          refine a1.mono ?_
          rintro e w8 ⟨rfl, h1, h2⟩
          have HW := Lib.hid (show Rb g g S _ w8 (p + (putL o).length) from ⟨h1, HBA.out.trans h2⟩)
          clear h1 h2 a1
          go_wp2
          go_roundw
          case rel => exact ⟨j + 1, by go_num, by omega, by rw [HTK3.out]; exact HW⟩
          case measure => simp [intOf]; omega
        · obtain rfl : j = P.length := by omega
          rw [List.take_length, ← HS.out] at hx
          have b1 := done_any Bf g S S.size wr (HEB.out.below hx.out.bel).env hx.out.rdr (Nat.le_refl _) (by omega)
          have hd : doneE S S.size = 0 := by unfold doneE; rw [if_neg (Nat.lt_irrefl _)]
          rw [hd, show ev Bf 0 = .nilIface from rfl] at b1
          have b2 := fun n => left_any g S S.size (wr.drewN n) (hx.out.rdr.drewN n) (Nat.le_refl _) (by omega)
          rw [Nat.sub_self] at b2
          have b3 := fun n => at_any g S S.size (wr.drewN n) (hx.out.rdr.drewN n)
          have HFIN := Lib.hid (HBW.out.trans (hx.out.bel.mono HLW.out))
          clear hd
          go_wp2_with fail
          refine b1.mono ?_
          rintro e w' ⟨rfl, n1, rfl⟩
          go_wp2_with fail
          refine (b2 n1).mono ?_
          rintro e w' ⟨rfl, n2, rfl⟩
          go_wp2_with fail
          refine (b3 (n1 + n2)).mono ?_
          rintro e w' ⟨rfl, rfl⟩
          go_wp2
          go_ret
          exact ⟨rfl, below_drewN HFIN.out _⟩
end Go.Proofs.YtnodjcapclkmhaaDoor
