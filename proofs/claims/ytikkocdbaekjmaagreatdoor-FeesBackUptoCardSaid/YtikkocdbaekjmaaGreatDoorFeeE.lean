/- fees.text of a good schedule: walked. -/
import Derived.Test.YtikkocdbaekjmaaGreatDoorFeeD
import Derived.Test.YtikkocdbaekjmaaGreatDoorHeldR
import Derived.Deep.DrawnRows
namespace Go.Proofs.YtikkocdbaekjmaaGreatDoor
open Go.RowKit
attribute [local go_sem ↓] Go.wp_at_zero Go.wp_at_succ

theorem nDigits_le : ∀ (k u : Nat), u < 10 ^ (k + 1) → Lib.nDigits u ≤ k + 1
  | 0, u, h => by rw [Lib.nDigits_small (by simpa using h)]; omega
  | k + 1, u, h => by
    rw [Lib.nDigits]
    split
    · omega
    · have := nDigits_le k (u / 10) (by rw [Nat.pow_succ] at h; omega)
      omega
theorem decDigits_len {u : Nat} (h : u ≤ 9223372036854775808) : (Lib.decDigits u).length ≤ 19 := by
  rw [Lib.decDigits_length]; exact nDigits_le 18 u (by omega)
/-- A number in digits. -/
def dg (x : Int) : List UInt8 := Lib.decDigits x.toNat
def tierTxt (x : Tier) : List UInt8 := dg x.fr ++ [58] ++ dg x.fl ++ [43] ++ dg x.rt
def comma (k : Nat) : List UInt8 := if k = 0 then [] else [44]
def tiersTxt (t : Nat → Tier) : Nat → List UInt8
  | 0 => []
  | k + 1 => tiersTxt t k ++ comma k ++ tierTxt (t k)
def minTxt (l : Int) : List UInt8 := if l = 0 then [] else [32, 109, 105, 110, 32] ++ dg l
def maxTxt (m : Int) : List UInt8 := if m = 0 then [] else [32, 109, 97, 120, 32] ++ dg m
/-- A schedule's text. -/
def feeTxt (n : Nat) (t : Nat → Tier) (l m : Int) : List UInt8 := tiersTxt t n ++ minTxt l ++ maxTxt m
theorem dg_len {x : Int} (h : x ≤ 9223372036854775807) : (dg x).length ≤ 19 := decDigits_len (by omega)
theorem tiers_len {t : Nat → Tier} {N : Nat} (h : ∀ i, i < N → (t i).fr ≤ 9223372036854775807 ∧ (t i).fl ≤ 9223372036854775807 ∧ (t i).rt ≤ 9223372036854775807) : ∀ k, k ≤ N → (tiersTxt t k).length ≤ k * 60
  | 0, _ => by simp [tiersTxt]
  | k + 1, hk => by
    have ih := tiers_len h k (by omega)
    obtain ⟨h1, h2, h3⟩ := h k (by omega)
    have e1 := dg_len h1
    have e2 := dg_len h2
    have e3 := dg_len h3
    have ec : (comma k).length ≤ 1 := by unfold comma; split <;> simp
    unfold tiersTxt tierTxt
    simp only [List.length_append, List.length_cons, List.length_nil]
    omega

/-- A string behind what is owned: the run. -/
theorem append_text {wr : World} {v : Value} {xs : List UInt8} (B : Nat) (hown : Own wr B v xs) (s : ByteArray) (hlen : xs.length + s.size ≤ 1000000) (hB : B ≤ wr.heap.size) :
    ∃ v' w', (∀ ty, (Builtin.append_ #[73, 9] ty #[v, .string s]).run Tryz.prog wr = .ok v' w') ∧ Own w' B v' (xs ++ s.data.toList) ∧ wr.grownBy w' v.ownBlock ∧ True := by
  obtain ⟨i, hi, hzz⟩ := Option.map_eq_some_iff.1 info5
  simp only [Prod.mk.injEq] at hzz
  obtain ⟨hz, hsz, hby⟩ := hzz
  obtain ⟨v', w', h1, h2, h3, _⟩ := Lib.run_append_own_string (P := Tryz.prog) wr B 73 9 73 5 i Tryz.underlying73 Tryz.underlying9 hi hz hsz hby v xs.length _ hown s (by unfold maxLen; omega) (by omega) hB
  refine ⟨v', w', fun ty => ?_, ?_, h3, trivial⟩
  · exact h1
  · unfold Own
    have e : (xs ++ s.data.toList).length = xs.length + s.size := by rw [List.length_append, Array.length_toList]; rfl
    rw [byteCells_append, e]
    exact h2
theorem oper_append {o : Oper} {a : Act} {wr w' : World} {K : Act → World → Prop} {Q : Exit → Act → World → Prop} {x y : Operand} {v v' : Value} {s : ByteArray} (ho : o.op = .call { callee := .builtin .append, args := #[x, y], argTypes := #[73, 9] }) (hx : a.eval x = v) (hy : a.eval y = .string s)
    (hr : ∀ ty, (Builtin.append_ #[73, 9] ty #[v, .string s]).run Tryz.prog wr = .ok v' w') (h : K (a.put o.dst v') w') : Oper.wp Tryz.prog o a wr K Q := by
  unfold Oper.wp execOp
  simp only [ho, resolve, invoke, builtin, Sem.run_bind, Sem.run_pure, Result.andThen_ok, List.map_toArray, List.map_cons, List.map_nil, hx, hy, hr]
  exact h
theorem own_string {w : World} {B : Nat} {v : Value} {xs : List UInt8} (h : Own w B v xs) : ∃ A c, v = .slice A xs.length c ∧ (convert 73 9 v).run Tryz.prog w = .ok (.string ⟨xs.toArray⟩) w := by
  rcases h with ⟨_, ⟨rfl, h2⟩ | ⟨g, cap, cur, rfl, hB, hg, hn, _, hcs, hxs⟩⟩
  · have hx : xs = [] := List.length_eq_zero_iff.1 h2
    subst hx
    exact ⟨none, 0, rfl, run_convert_bytes_nil w 73 5 Tryz.underlying73 Tryz.underlying5 0 0 9 Tryz.underlying9⟩
  · refine ⟨_, _, rfl, run_convert_bytes_back w 73 9 5 ⟨g, 0, none⟩ cap xs Tryz.underlying73 Tryz.underlying5 Tryz.underlying9 fun j hj => ?_⟩
    rw [Nat.mul_one] at hxs
    have h1 : cur.toList[j]? = (Lib.byteCells xs)[j]? := by rw [← hxs, List.getElem?_take_of_lt hj]
    have h2 : (Lib.byteCells xs)[j]? = some (.int .u8 (xs[j].toNat : Int)) := by unfold Lib.byteCells; rw [List.getElem?_map, List.getElem?_eq_getElem hj]; rfl
    have h3 : (⟨g, 0, none⟩ : Addr).add j = ⟨g, j, none⟩ := by unfold Addr.add; split <;> simp_all
    rw [h3]
    unfold World.cell?
    rw [hg]
    show cur[j]? = _
    rw [← Array.getElem?_toList, h1, h2]
theorem TS.drew {w0 w : World} {A : Option Addr} {n c : Nat} {l m : Int} {v : Value} {xs : List UInt8} (h : TS w0 w A n c l m v xs) : TS w0 w.drew A n c l m v xs := ⟨h.own, h.boxed.below.drew, h.boxed.box⟩

set_option maxRecDepth 100000 in
set_option maxHeartbeats 4000000 in
theorem text_any (A : Option Addr) (n c : Nat) (t : Nat → Tier) (l m : Int) (w : World) (hT : Tiers w A n t) (htab : Tab w) (hG : GoodP n t l m) :
    Calls Tryz.prog 18 #[feeV A n c l m] w fun e w' => e = .returned (.string ⟨(feeTxt n t l m).toArray⟩) ∧ Below w.heap.size w w' := by
  have HT := Lib.hid hT; have HTAB := Lib.hid htab; have GP := Lib.hid hG
  have hTS : TS w (w.alloc (.cells #[.slice A n c, .int .i64 l, .int .i64 m] 25)) A n c l m (.slice none 0 0) (tiersTxt t 0) := ⟨Own.nil _ _, Boxed.new w A n c l m⟩
  have HTS := Lib.hid hTS
  have hn6 := hG.n6
  have HLEN := Lib.hid (show ∀ k, k ≤ n → (tiersTxt t k).length ≤ 360 from fun k hk => by
    have h1 := tiers_len (t := t) (N := n) (fun i hi => ⟨by have := hG.fr i hi; omega, by have := hG.fl i hi; omega, by have := hG.rt i hi; omega⟩) k hk
    omega)
  unfold feeV
  clear hT htab hG hTS
  go_enter Tryz.func18, Tryz.ntmps18
  go_wp2_with fail
  go_loopw [9, 3] (fun vi vb wr => ∃ k : Nat, vi = .int .i64 k ∧ k ≤ n ∧ Hid (TS w wr A n c l m vb (tiersTxt t k))) (fun vi _ _ => n - (intOf vi).toNat)
  case atStart => exact ⟨0, rfl, Nat.zero_le _, HTS⟩
  case round =>
    obtain ⟨k, rfl, hk, hts⟩ := hrel
    generalize hvb : u3 = vb at *
    clear hvb
    rcases Nat.lt_or_ge k n with h | h
    · rcases HT.out with h0 | ⟨b, o, rfl, hb, hc⟩
      · omega
      · have hkI : (k : Int) < n := by omega
        obtain ⟨c0, c1, c2⟩ := hc k h
        have c0 := (hts.out.boxed.below.cell (p := ⟨b, o + k * 3, none⟩) hb).trans c0
        have c1 := (hts.out.boxed.below.cell (p := ⟨b, o + k * 3 + 1, none⟩) hb).trans c1
        have c2 := (hts.out.boxed.below.cell (p := ⟨b, o + k * 3 + 2, none⟩) hb).trans c2
        have g1 := GP.out.fr k h
        have g2 := GP.out.fl k h
        have g3 := GP.out.rt k h
        clear hc
        generalize hx : t k = x at *
        have HX := Lib.hid hx
        clear hx
        obtain ⟨fr, fl, rt⟩ := x
        dsimp only at c0 c1 c2 g1 g2 g3
        obtain ⟨x, rfl⟩ := Int.eq_ofNat_of_zero_le g1.1
        obtain ⟨y, rfl⟩ := Int.eq_ofNat_of_zero_le g2.1
        obtain ⟨z, rfl⟩ := Int.eq_ofNat_of_zero_le g3.1
        have hlen := HLEN.out k hk
        have hxb : x ≤ 10000000000 := by have := g1.2; omega
        have hyb : y ≤ 10000000000 := by have := g2.2; omega
        have hzb : z ≤ 10000 := by have := g3.2; omega
        clear g1 g2 g3
        go_upto_if 15 with fail
        have HTS1 := Lib.hid (hts.out.step ((Below.refl wr.heap.size wr).alloc (Nat.le_refl _) (.cells #[.int .i64 x, .int .i64 y, .int .i64 z] 35)))
        have HTA := Lib.hid (show TierAt (wr.alloc (.cells #[.int .i64 x, .int .i64 y, .int .i64 z] 35)) wr.heap.size ⟨x, y, z⟩ from heap_alloc_new wr _)
        clear c0 c1 c2 hts
        generalize wr.alloc (.cells #[.int .i64 x, .int .i64 y, .int .i64 z] 35) = w1 at *
        generalize wr.heap.size = g at *
        generalize hxs : tiersTxt t k = xs at *
        have HXS := Lib.hid hxs
        clear hxs
        generalize hq : decide (0 < k) = q at *
        have HQ := Lib.hid hq
        clear hq
        go_cut [3] from 15 to 18 (fun v wx => Hid (TS w wx (some ⟨b, o, none⟩) n c l m v (xs ++ comma k)) ∧ Hid (TierAt wx g ⟨x, y, z⟩))
        case first =>
          cases q with
          | false =>
            have e : comma k = [] := if_pos (by have := of_decide_eq_false HQ.out; omega)
            go_wp2
            go_meet
            rw [e, List.append_nil]
            exact ⟨HTS1, HTA⟩
          | true =>
            have HE := Lib.hid (show comma k = [44] from if_neg (by have := of_decide_eq_true HQ.out; omega))
            go_wp2_with (at_builtin; refine append_byte rfl _ _ rfl w.heap.size vb xs rfl (HTS1.out.own.below ((Below.refl _ _).alloc (Nat.le_refl _) _)) w1.heap.size 44 rfl (heap_alloc_new w1 _) (by omega) (by have := HTS1.out.boxed.below.size; simp; omega) ?_; intro v2 w2 ho2 hg2)
            go_meet
            have hb2 : Below w1.heap.size w1 (w1.alloc (.cells #[.int .u8 (44 : UInt8).toNat] 5)) := (Below.refl _ _).alloc (Nat.le_refl _) _
            rw [HE.out]
            exact ⟨(HTS1.out.step hb2).grown ho2 hg2, (HTA.out.below hb2).grown (HTS1.out.step hb2).own hg2⟩
        case rest =>
          obtain ⟨h1, h2⟩ := hcut
          have HTS5 := h1
          have HTA5 := h2
          clear h1 h2 HTS1 HTA
          have dx := decDigits_len (u := x) (by omega)
          have dy := decDigits_len (u := y) (by omega)
          have dz := decDigits_len (u := z) (by omega)
          have HLY := Lib.hid (show xs.length ≤ 360 ∧ (comma k).length ≤ 1 ∧ (Lib.decDigits x).length ≤ 19 ∧ (Lib.decDigits y).length ≤ 19 ∧ (Lib.decDigits z).length ≤ 19 from ⟨hlen, by unfold comma; split <;> simp, dx, dy, dz⟩)
          clear dx dy dz hlen
          generalize u3 = v5 at *
          generalize wc = w5 at *
          have c5 := HTA5.out.cells.1.1
          have a5 := appendInt_nat w w5 v5 (xs ++ comma k) x (by omega) HTS5.out.own HTS5.out.boxed.below HTAB.out (by have := HLY.out; simp only [List.length_append, List.length_cons, List.length_nil]; omega)
          go_wp2_with fail
          refine a5.mono ?_
          clear a5 c5
          rintro e w51 ⟨v51, rfl, ho, hb, hk⟩
          have HTS51 := Lib.hid (HTS5.out.others ho hb hk)
          have HTA51 := Lib.hid (HTA5.out.others hk)
          clear ho hb hk
          have hb5 := (Below.refl w51.heap.size w51).alloc (Nat.le_refl _) (.cells #[.int .u8 (58 : UInt8).toNat] 5)
          have HST := Lib.hid (HTS51.out.step hb5)
          have HAT := Lib.hid (HTA51.out.below hb5)
          have hsz : w.heap.size ≤ (w51.alloc (.cells #[.int .u8 (58 : UInt8).toNat] 5)).heap.size := HST.out.boxed.below.size
          have hll : (xs ++ comma k ++ Lib.decDigits x).length ≤ 1000000 := by have := HLY.out; simp only [List.length_append, List.length_cons, List.length_nil]; omega
          clear hb5
          go_wp2_with (at_builtin; refine append_byte rfl _ _ rfl w.heap.size v51 (xs ++ comma k ++ Lib.decDigits x) rfl HST.out.own w51.heap.size 58 rfl (heap_alloc_new w51 _) hll hsz ?_; intro v6 w6 ho2 hg2; have HTS6 := Lib.hid (HST.out.grown ho2 hg2); have HTA6 := Lib.hid (HAT.out.grown HST.out.own hg2); have c6 := HTA6.out.cells.1.2.1; clear HST HAT ho2 hg2 hsz hll)
          have a6 := appendInt_nat w w6 v6 (xs ++ comma k ++ Lib.decDigits x ++ [58]) y (by omega) HTS6.out.own HTS6.out.boxed.below HTAB.out (by have := HLY.out; simp only [List.length_append, List.length_cons, List.length_nil]; omega)
          go_wp2_with fail
          refine a6.mono ?_
          clear a6 c6
          rintro e w61 ⟨v61, rfl, ho, hb, hk⟩
          have HTS61 := Lib.hid (HTS6.out.others ho hb hk)
          have HTA61 := Lib.hid (HTA6.out.others hk)
          clear ho hb hk
          have hb6 := (Below.refl w61.heap.size w61).alloc (Nat.le_refl _) (.cells #[.int .u8 (43 : UInt8).toNat] 5)
          have HST := Lib.hid (HTS61.out.step hb6)
          have HAT := Lib.hid (HTA61.out.below hb6)
          have hsz : w.heap.size ≤ (w61.alloc (.cells #[.int .u8 (43 : UInt8).toNat] 5)).heap.size := HST.out.boxed.below.size
          have hll : (xs ++ comma k ++ Lib.decDigits x ++ [58] ++ Lib.decDigits y).length ≤ 1000000 := by have := HLY.out; simp only [List.length_append, List.length_cons, List.length_nil]; omega
          clear hb6
          go_wp2_with (at_builtin; refine append_byte rfl _ _ rfl w.heap.size v61 (xs ++ comma k ++ Lib.decDigits x ++ [58] ++ Lib.decDigits y) rfl HST.out.own w61.heap.size 43 rfl (heap_alloc_new w61 _) hll hsz ?_; intro v7 w7 ho2 hg2; have HTS7 := Lib.hid (HST.out.grown ho2 hg2); have HTA7 := Lib.hid (HAT.out.grown HST.out.own hg2); have c7 := HTA7.out.cells.1.2.2; clear HST HAT ho2 hg2 hsz hll)
          have a7 := appendInt_nat w w7 v7 (xs ++ comma k ++ Lib.decDigits x ++ [58] ++ Lib.decDigits y ++ [43]) z (by omega) HTS7.out.own HTS7.out.boxed.below HTAB.out (by have := HLY.out; simp only [List.length_append, List.length_cons, List.length_nil]; omega)
          go_wp2_with fail
          refine a7.mono ?_
          clear a7 c7
          rintro e w71 ⟨v71, rfl, ho, hb, hk⟩
          have HTS71 := Lib.hid (HTS7.out.others ho hb hk)
          have HTA71 := Lib.hid (HTA7.out.others hk)
          clear ho hb hk
          have HE := Lib.hid (show tiersTxt t (k + 1) = xs ++ comma k ++ Lib.decDigits x ++ [58] ++ Lib.decDigits y ++ [43] ++ Lib.decDigits z by
            show tiersTxt t k ++ comma k ++ tierTxt (t k) = _
            rw [HXS.out, HX.out]
            simp [tierTxt, dg])
          go_wp2
          go_roundw
          case rel => exact ⟨k + 1, by go_num, h, by rw [HE.out]; exact HTS71⟩
          case measure => simp [intOf]; omega
    · obtain rfl : n = k := by omega
      have hl := HLEN.out n (Nat.le_refl _)
      have l0 := GP.out.l0
      have m0 := GP.out.m0
      have d1 := decDigits_len (u := l.toNat) (by omega)
      have d2 := decDigits_len (u := m.toNat) (by omega)
      have HLY := Lib.hid (show (tiersTxt t n).length ≤ 360 ∧ (minTxt l).length ≤ 24 ∧ (maxTxt m).length ≤ 24 from ⟨hl, by unfold minTxt; split <;> simp [dg]; omega, by unfold maxTxt; split <;> simp [dg]; omega⟩)
      clear hl d1 d2 l0 m0 HLEN HTS
      have HTS := hts
      clear hts
      obtain ⟨x1, x2, x3⟩ := HTS.out.boxed.cells
      go_upto_if 38 with fail
      go_cut [3] from 38 to 43 (fun v wx => Hid (TS w wx A n c l m v (tiersTxt t n ++ minTxt l)))
      case first =>
        by_cases hz : l = 0
        · have q1 : (l == 0) = true := beq_iff_eq.2 hz
          have q2 : (l != 0) = false := by simp [hz]
          have e : minTxt l = [] := if_pos hz
          clear hz
          go_wp2
          go_meet
          rw [e, List.append_nil]
          exact HTS
        · have q1 : (l == 0) = false := beq_eq_false_iff_ne.2 hz
          have q2 : (l != 0) = true := by simp [hz]
          have HW := Lib.hid (show minTxt l = [32, 109, 105, 110, 32] ++ dg l from if_neg hz)
          have HZ := Lib.hid hz
          clear hz
          obtain ⟨v2, w2, hr, ho2, hg2, _⟩ := append_text (wr := wr.drew) (v := vb) (xs := tiersTxt t n) w.heap.size HTS.out.own (⟨#[32, 109, 105, 110, 32]⟩ : ByteArray) (by have := HLY.out; simp [ByteArray.size]; omega) HTS.out.boxed.below.size
          have HT2 := Lib.hid ((TS.drew HTS.out).grown ho2 hg2)
          have S0 := HTS.out.boxed.cells.2.1
          have S2 := HT2.out.boxed.cells.2.1
          obtain ⟨x, hx⟩ : ∃ x : Nat, l = x := ⟨l.toNat, by have := GP.out.l0.1; omega⟩
          have hxb : x ≤ 10000000000 := by have := GP.out.l0.2; omega
          have HXX := Lib.hid hx
          have ho3 := HT2.out.own
          have a1 := appendInt_nat w w2 v2 (tiersTxt t n ++ [32, 109, 105, 110, 32]) x (by omega) ho3 HT2.out.boxed.below HTAB.out (by have := HLY.out; simp; omega)
          clear ho2 hg2 ho3
          rw [← hx] at a1
          clear hx
          go_wp2_with fail
          refine wp_region_R (S := fun W => W.cell? ⟨w.heap.size, 1, none⟩ = some (.int .i64 l)) (late := []) (by kernel_rfl) ?_
          refine wpAnyR_takeY (i := 0) (v := vb) rfl (by kernel_rfl) (by kernel_rfl) (by kernel_rfl) (fun _ _ _ h => h) (Or.inl ⟨by kernel_rfl, ?_⟩) ?_
          · intro W _; go_simp
          try simp only [Act.put]
          refine wpAnyR_takeY (i := 2) (v := .pointer (some ⟨w.heap.size, 1, none⟩)) rfl (by kernel_rfl) (by kernel_rfl) (by kernel_rfl) (fun _ _ _ h => h) (Or.inl ⟨by kernel_rfl, ?_⟩) ?_
          · intro W _; go_simp
          try simp only [Act.put]
          refine wpAnyR_take (i := 3) (v := .int .i64 l) rfl (by kernel_rfl) (by kernel_rfl) (by kernel_rfl) (by kernel_rfl) (by kernel_rfl) (fun _ _ _ h => h) (Or.inl ⟨by kernel_rfl, ?_⟩) S0 ?_
          · intro W hSw; skip; go_simp
          try simp only [Act.put]
          refine wpAnyR_one (i := 1) (by kernel_rfl) rfl (fun K hK => ?_)
          rw [if_pos (by kernel_rfl)]
          refine oper_append rfl rfl rfl hr ?_
          refine hK.out _ _ (.inr fun _ => S2) ?_
          clear hK K
          try simp only [Act.put]
          refine wpAnyR_one (i := 4) (by kernel_rfl) rfl (fun K hK => ?_)
          go_simp
          go_at_call 30
          refine a1.mono ?_
          rintro e w3 ⟨v3, rfl, ho, hb, hk⟩
          have HT3 := Lib.hid (HT2.out.others ho hb hk)
          have S3 := HT3.out.boxed.cells.2.1
          clear ho hb hk
          try go_simp
          refine hK.out _ _ (.inr fun _ => S3) ?_
          clear hK K
          try simp only [Act.put]
          refine wpAnyR_one (i := 5) (by kernel_rfl) rfl (fun K hK => ?_)
          go_simp
          refine hK.out _ _ (.inr id) ?_
          clear hK K
          try simp only [Act.put]
          refine wpAnyR_done (by kernel_rfl) ?_ _
          go_wp2
          go_meet
          rw [HW.out]
          have := HT3.out
          rw [show x = l.toNat by have := HXX.out; omega, List.append_assoc] at this
          exact this
      case rest =>
        have h38 := hcut
        clear hcut
        generalize u3 = vb at *
        clear x1 x2 x3 HTS
        have HTS := h38
        clear h38
        generalize wc = wr at *
        generalize hxs : tiersTxt t n ++ minTxt l = xs at *
        have HXS := Lib.hid hxs
        have HLY := Lib.hid (show xs.length ≤ 400 from by rw [← hxs, List.length_append]; have := HLY.out; omega)
        clear hxs
        obtain ⟨x1, x2, x3⟩ := HTS.out.boxed.cells
        go_upto_if 46 with fail
        go_cut [3] from 46 to 51 (fun v wx => Hid (TS w wx A n c l m v (xs ++ maxTxt m)))
        case first =>
          by_cases hz : m = 0
          · have q1 : (m == 0) = true := beq_iff_eq.2 hz
            have q2 : (m != 0) = false := by simp [hz]
            have e : maxTxt m = [] := if_pos hz
            clear hz
            go_wp2
            go_meet
            rw [e, List.append_nil]
            exact HTS
          · have q1 : (m == 0) = false := beq_eq_false_iff_ne.2 hz
            have q2 : (m != 0) = true := by simp [hz]
            have HW := Lib.hid (show maxTxt m = [32, 109, 97, 120, 32] ++ dg m from if_neg hz)
            have HZ := Lib.hid hz
            clear hz
            obtain ⟨v2, w2, hr, ho2, hg2, _⟩ := append_text (wr := wr.drew) (v := vb) (xs := xs) w.heap.size HTS.out.own (⟨#[32, 109, 97, 120, 32]⟩ : ByteArray) (by have := HLY.out; simp [ByteArray.size]; omega) HTS.out.boxed.below.size
            have HT2 := Lib.hid ((TS.drew HTS.out).grown ho2 hg2)
            have S0 := HTS.out.boxed.cells.2.2
            have S2 := HT2.out.boxed.cells.2.2
            obtain ⟨x, hx⟩ : ∃ x : Nat, m = x := ⟨m.toNat, by have := GP.out.m0.1; omega⟩
            have hxb : x ≤ 10000000000 := by have := GP.out.m0.2; omega
            have HXX := Lib.hid hx
            have ho3 := HT2.out.own
            have a1 := appendInt_nat w w2 v2 (xs ++ [32, 109, 97, 120, 32]) x (by omega) ho3 HT2.out.boxed.below HTAB.out (by have := HLY.out; simp; omega)
            clear ho2 hg2 ho3
            rw [← hx] at a1
            clear hx
            go_wp2_with fail
            refine wp_region_R (S := fun W => W.cell? ⟨w.heap.size, 2, none⟩ = some (.int .i64 m)) (late := []) (by kernel_rfl) ?_
            refine wpAnyR_takeY (i := 0) (v := vb) rfl (by kernel_rfl) (by kernel_rfl) (by kernel_rfl) (fun _ _ _ h => h) (Or.inl ⟨by kernel_rfl, ?_⟩) ?_
            · intro W _; go_simp
            try simp only [Act.put]
            refine wpAnyR_takeY (i := 2) (v := .pointer (some ⟨w.heap.size, 2, none⟩)) rfl (by kernel_rfl) (by kernel_rfl) (by kernel_rfl) (fun _ _ _ h => h) (Or.inl ⟨by kernel_rfl, ?_⟩) ?_
            · intro W _; go_simp
            try simp only [Act.put]
            refine wpAnyR_take (i := 3) (v := .int .i64 m) rfl (by kernel_rfl) (by kernel_rfl) (by kernel_rfl) (by kernel_rfl) (by kernel_rfl) (fun _ _ _ h => h) (Or.inl ⟨by kernel_rfl, ?_⟩) S0 ?_
            · intro W hSw; skip; go_simp
            try simp only [Act.put]
            refine wpAnyR_one (i := 1) (by kernel_rfl) rfl (fun K hK => ?_)
            rw [if_pos (by kernel_rfl)]
            refine oper_append rfl rfl rfl hr ?_
            refine hK.out _ _ (.inr fun _ => S2) ?_
            clear hK K
            try simp only [Act.put]
            refine wpAnyR_one (i := 4) (by kernel_rfl) rfl (fun K hK => ?_)
            go_simp
            go_at_call 30
            refine a1.mono ?_
            rintro e w3 ⟨v3, rfl, ho, hb, hk⟩
            have HT3 := Lib.hid (HT2.out.others ho hb hk)
            have S3 := HT3.out.boxed.cells.2.2
            clear ho hb hk
            try go_simp
            refine hK.out _ _ (.inr fun _ => S3) ?_
            clear hK K
            try simp only [Act.put]
            refine wpAnyR_one (i := 5) (by kernel_rfl) rfl (fun K hK => ?_)
            go_simp
            refine hK.out _ _ (.inr id) ?_
            clear hK K
            try simp only [Act.put]
            refine wpAnyR_done (by kernel_rfl) ?_ _
            go_wp2
            go_meet
            rw [HW.out]
            have := HT3.out
            rw [show x = m.toNat by have := HXX.out; omega, List.append_assoc] at this
            exact this
        case rest =>
          have h46 := hcut
          clear hcut
          have hE : xs ++ maxTxt m = feeTxt n t l m := by unfold feeTxt; rw [← HXS.out]
          have h47 := h46.out
          rw [hE] at h47
          clear hE h46
          generalize hF : feeTxt n t l m = F at h47
          have HF := Lib.hid hF
          have HBL := Lib.hid h47.boxed.below
          obtain ⟨A2, c2, hv2, hcv⟩ := own_string h47.own
          subst hv2
          clear hF h47
          go_wp2
          go_ret
          exact ⟨by rw [HF.out]; rfl, HBL.out⟩
end Go.Proofs.YtikkocdbaekjmaaGreatDoor
