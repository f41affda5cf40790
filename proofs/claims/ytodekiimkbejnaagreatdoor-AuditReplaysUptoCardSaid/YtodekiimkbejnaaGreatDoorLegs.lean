/- posting.checkLegs: walked. -/
import Derived.Test.YtodekiimkbejnaaGreatDoorPost2
import Derived.Maps.OwnOps
import Derived.Maps.OwnSet
namespace Go.Proofs.YtodekiimkbejnaaGreatDoor
open Go.RowKit Go.WideMaps Go.Maps

/-- A leg. -/
structure LegV where
  a : ByteArray
  x : Int
def LegV.Ok (l : LegV) : Prop := l.a.size ≤ 140737488351232 ∧ -9223372036854775808 ≤ l.x ∧ l.x ≤ 9223372036854775807
/-- The cells of n legs. -/
def LegsAt (w : World) (A : Option Addr) (n : Nat) (lg : Nat → LegV) : Prop := 0 < n → ∃ g o, A = some ⟨g, o, none⟩ ∧ g < w.heap.size ∧ ∀ i, i < n → w.cell? ⟨g, o + i * 2, none⟩ = some (.string (lg i).a) ∧ w.cell? ⟨g, o + i * 2 + 1, none⟩ = some (.int .i64 (lg i).x) ∧ (lg i).Ok
theorem LegsAt.below {w w' : World} {B : Nat} {A : Option Addr} {n : Nat} {lg : Nat → LegV} (h : LegsAt w A n lg) (hA : 0 < n → ∀ a, A = some a → a.block < B) (hb : Below B w w') : LegsAt w' A n lg := by
  intro hn
  obtain ⟨g, o, e, hg, hc⟩ := h hn
  have hl := hA hn _ e
  exact ⟨g, o, e, Nat.lt_of_lt_of_le hg hb.size, fun i hi => ⟨(hb.cell (by exact hl)).trans (hc i hi).1, (hb.cell (by exact hl)).trans (hc i hi).2.1, (hc i hi).2.2⟩⟩

def kl (a : ByteArray) : Lit := .string a.data.toList
/-- What a map of whole numbers holds at a key. -/
def numAt (D : DataW Unit) (k : Lit) : Int := match D.atKey k (.lit (.int .i64 0)) with
  | .lit (.int _ c) => c
  | _ => 0
theorem numAt_of {D : DataW Unit} {k : Lit} {c : Int} (h : D.atKey k (.lit (.int .i64 0)) = .lit (.int .i64 c)) : numAt D k = c := by unfold numAt; rw [h]
/-- How often each account has been seen, of the first k legs. -/
def seenD (lg : Nat → LegV) : Nat → DataW Unit
  | 0 => .map []
  | k + 1 => (seenD lg k).put (kl (lg k).a) (.lit (.int .i64 (wrap64 (numAt (seenD lg k) (kl (lg k).a) + 1))))
/-- The sum of the first k amounts. -/
def sumL (lg : Nat → LegV) : Nat → Int
  | 0 => 0
  | k + 1 => sumL lg k + (lg k).x
def amtOk (x : Int) : Bool := !(x == 0) && !decide ((4611686018427387904 : Int) < x) && !decide (x < -4611686018427387904)
/-- Are the first k legs' accounts good? -/
def accs (lg : Nat → LegV) : Nat → Bool
  | 0 => true
  | k + 1 => accs lg k && acFit (lg k).a
def amts (lg : Nat → LegV) : Nat → Bool
  | 0 => true
  | k + 1 => amts lg k && amtOk (lg k).x
def legsOk (lg : Nat → LegV) (n : Nat) : Bool := accs lg n && amts lg n && (Maps.size (seenD lg n) == n) && (sgn (sumL lg n) == 0)
theorem accs_false {lg : Nat → LegV} {k n : Nat} (hk : k < n) (h : acFit (lg k).a = false) : accs lg n = false := by
  induction n with
  | zero => omega
  | succ m ih =>
    unfold accs
    by_cases e : k = m
    · subst e; rw [h, Bool.and_false]
    · rw [ih (by omega), Bool.false_and]
theorem amts_false {lg : Nat → LegV} {k n : Nat} (hk : k < n) (h : amtOk (lg k).x = false) : amts lg n = false := by
  induction n with
  | zero => omega
  | succ m ih =>
    unfold amts
    by_cases e : k = m
    · subst e; rw [h, Bool.and_false]
    · rw [ih (by omega), Bool.false_and]
theorem sumL_le {lg : Nat → LegV} : ∀ k, amts lg k = true → (sumL lg k).natAbs ≤ k * 4611686018427387904
  | 0, _ => Nat.zero_le _
  | k + 1, h => by
    unfold amts at h
    rw [Bool.and_eq_true] at h
    have h1 := sumL_le k h.1
    have h2 := h.2
    unfold amtOk at h2
    simp only [Bool.and_eq_true, Bool.not_eq_true', decide_eq_false_iff_not] at h2
    show (sumL lg k + (lg k).x).natAbs ≤ _
    omega
theorem ownsMap_keep {w w' : World} {P : Program} {k : TypeId} {R : Value → Option (DataW Unit × List MemPlace)} {b n : Nat} {D : DataW Unit} (h : w.ownsMap P k R b n D) (hb : w'.heap[b]? = w.heap[b]?) : w'.ownsMap P k R b n D := by
  obtain ⟨es, clock, hb0, r⟩ := h
  exact ⟨es, clock, hb.trans hb0, r⟩
theorem law : Keyed Tryz.prog 9 := string_keyed Tryz.underlying9
theorem zero3 (w : World) : (zeroValue 3).run Tryz.prog w = .ok (.int .i64 0) w := by kernel_rfl
theorem key_kl (a : ByteArray) (h : a.size ≤ 140737488351232) : keyOf Tryz.prog 9 (.string a) = some (kl a) := keyOf_string_mk Tryz.underlying9 (by unfold maxLen; omega)

/-- Good or not: what checkLegs, and Check, answer. -/
def ChkPost (ok : Bool) (w : World) (e : Ending) (w' : World) : Prop := (∃ v, e = .returned v ∧ (ok = true ∧ v = .nilIface ∨ ok = false ∧ ∃ p, v = .iface 135 (.pointer (some p)))) ∧ Below w.heap.size w w'
theorem ChkPost.good {w w' : World} {e : Ending} (h : e = .returned .nilIface) (hb : Below w.heap.size w w') : ChkPost true w e w' := ⟨⟨_, h, .inl ⟨rfl, rfl⟩⟩, hb⟩
theorem ChkPost.bad {w w' : World} {e : Ending} {p : Addr} {ok : Bool} (h : e = .returned (.iface 135 (.pointer (some p)))) (ho : ok = false) (hb : Below w.heap.size w w') : ChkPost ok w e w' := ⟨⟨_, h, .inr ⟨ho, p, rfl⟩⟩, hb⟩

/-- Between the rounds of the second loop. -/
structure Lp (gs bm : Nat) (lg : Nat → LegV) (B : Nat) (w wr : World) (k : Nat) : Prop where
  big : ∃ v, wr.heap[gs]? = some (.cells #[.bool (decide (sumL lg k < 0)), v] 62 (0, 0)) ∧ Nv wr (bm + 1) v (sumL lg k).natAbs
  map : wr.ownsMap Tryz.prog 9 (plainElem (H := Unit) Tryz.prog 3) bm k (seenD lg k)
  low : B ≤ gs ∧ gs < bm ∧ bm < wr.heap.size
  bel : Below B w wr
  amt : amts lg k = true
section
variable {gs bm B k : Nat} {lg : Nat → LegV} {w wr w' : World}
theorem Lp.below (h : Lp gs bm lg B w wr k) (hb : Below wr.heap.size wr w') : Lp gs bm lg B w w' k := by
  obtain ⟨v, h1, h2⟩ := h.big
  have hl := h.low
  refine ⟨⟨v, (hb.block gs (by omega)).trans h1, h2.keep fun q e => hb.block q (h2.block e).2.1⟩, ownsMap_keep h.map (hb.block bm hl.2.2), ⟨hl.1, hl.2.1, Nat.lt_of_lt_of_le hl.2.2 hb.size⟩, h.bel.trans (hb.mono (by omega)), h.amt⟩
end

theorem lp_start (lg : Nat → LegV) (w wr : World) (hb : Below w.heap.size w wr) : Lp wr.heap.size (wr.heap.size + 1) lg w.heap.size w ((wr.alloc (.cells #[.bool false, .slice none 0 0] 62)).alloc (.map #[] 0)) 0 := by
  have z1 : (wr.alloc (.cells #[.bool false, .slice none 0 0] 62)).heap.size = wr.heap.size + 1 := by simp
  have b1 := Below.new wr (.cells #[.bool false, .slice none 0 0] 62)
  have n1 := heap_alloc_new wr (.cells #[.bool false, .slice none 0 0] 62)
  generalize wr.alloc (.cells #[.bool false, .slice none 0 0] 62) = w1 at *
  have b2 := Below.new w1 (.map #[] 0)
  have hm : (w1.alloc (.map #[] 0)).ownsMap Tryz.prog 9 (plainElem (H := Unit) Tryz.prog 3) w1.heap.size 0 (.map []) := World.ownsMap_made _ _ _ _
  rw [z1] at hm
  exact ⟨⟨.slice none 0 0, (b2.block _ (by omega)).trans n1, .inl ⟨rfl, rfl⟩⟩, hm, ⟨hb.size, by omega, by simp; omega⟩, (hb.trans (b1.mono hb.size)).trans (b2.mono (by have := hb.size; omega)), rfl⟩
/-- Behind the adding of a leg's amount. -/
theorem Lp.added {gs bm B j bx : Nat} {lg : Nat → LegV} {w wr w2 : World} {v v' : Value} {Y : Int} {cs : Array Value} (h : Lp gs bm lg B w wr j) (hN : Nv wr (bm + 1) v (sumL lg j).natAbs)
    (hx : wr.heap[bx]? = some (.cells cs 37 (0, 0))) (hbx : bx ≠ gs) (h1 : w2.heap[gs]? = some (.cells #[.bool (decide (Y < 0)), v'] 62 (0, 0))) (h2 : Nv w2 (bm + 1) v' Y.natAbs)
    (h3 : w2.os = wr.os ∧ w2.tape = wr.tape ∧ w2.output = wr.output ∧ wr.heap.size ≤ w2.heap.size ∧ ∀ k, k < wr.heap.size → k ≠ gs → some k ≠ v.ownBlock → w2.heap[k]? = wr.heap[k]?) :
    w2.ownsMap Tryz.prog 9 (plainElem (H := Unit) Tryz.prog 3) bm j (seenD lg j) ∧ w2.heap[bx]? = some (.cells cs 37 (0, 0)) ∧
    ∀ w3, w3.ownsMap Tryz.prog 9 (plainElem (H := Unit) Tryz.prog 3) bm (j + 1) (seenD lg (j + 1)) → w2.grownBy w3 (some bm) → Y = sumL lg (j + 1) → amtOk (lg j).x = true → Lp gs bm lg B w w3 (j + 1) := by
  obtain ⟨l1, l2, l3⟩ := h.low
  obtain ⟨o1, o2, o3, o4, o5⟩ := h3
  have hv : ∀ k, v.ownBlock = some k → bm + 1 ≤ k ∧ ∃ cur, wr.heap[k]? = some (.cells cur 87 (0, 0)) := fun k e => ⟨(hN.block e).1, (hN.block e).2.2⟩
  have hbxl : bx < wr.heap.size := by
    rcases Nat.lt_or_ge bx wr.heap.size with h | h
    · exact h
    · rw [Array.getElem?_eq_none h] at hx; cases hx
  refine ⟨ownsMap_keep h.map (o5 bm l3 (by omega) (fun e => by have := (hv bm e.symm).1; omega)), (o5 bx hbxl hbx (fun e => by
    obtain ⟨_, cur, hc⟩ := hv bx e.symm
    rw [hx] at hc
    injection hc with hc
    injection hc with _ hc _
    cases hc)).trans hx, fun w3 hm hg hY ha => ?_⟩
  subst hY
  have hgl : gs < w2.heap.size := by omega
  refine ⟨⟨v', (hg.block gs hgl (by simp; omega)).trans h1, h2.keep fun k e => hg.block k (h2.block e).2.1 (by have := (h2.block e).1; simp; omega)⟩, hm, ⟨l1, l2, by have := hg.size; omega⟩, ?_, ?_⟩
  · have hb2 : Below B wr w2 := ⟨o1, o2, o3, o4, fun k hk => o5 k (by omega) (by omega) (fun e => by have := (hv k e.symm).1; omega)⟩
    have hb3 : Below B w2 w3 := ⟨hg.os, hg.tape, hg.output, hg.size, fun k hk => hg.block k (by omega) (by simp; omega)⟩
    exact (h.bel.trans hb2).trans hb3
  · show (amts lg j && amtOk (lg j).x) = true
    rw [h.amt, ha]; rfl

set_option maxRecDepth 100000 in
set_option maxHeartbeats 4000000 in
theorem checkLegs_any (Bf : Nat → Addr) (A : Option Addr) (n c : Nat) (lg : Nat → LegV) (w : World) (hE : Env w Bf) (hL : LegsAt w A n lg) (hAb : 0 < n → ∀ a, A = some a → a.block < w.heap.size) (hn : n ≤ 8) :
    Calls Tryz.prog 16 #[.slice A n c] w (ChkPost (legsOk lg n) w) := by
  have HE := Lib.hid (fun w' (hb : Below w.heap.size w w') => hE.below hb)
  have HL := Lib.hid (fun w' (hb : Below w.heap.size w w') => hL.below hAb hb)
  have HO := Lib.hid (show ∀ b, legsOk lg n = b → b = legsOk lg n from fun b h => h.symm)
  have HQ := Lib.hid (show legsOk lg n = (accs lg n && amts lg n && (Maps.size (seenD lg n) == n) && (sgn (sumL lg n) == 0)) from rfl)
  clear hE hL hAb
  generalize legsOk lg n = ok at *
  have hmm := @run_makeMap Tryz.prog
  go_enter Tryz.func16, Tryz.ntmps16
  go_wp2_with fail
  go_loopw [11, 4] (fun vi _ wr => ∃ k : Nat, vi = .int .i64 k ∧ k ≤ n ∧ Hid (Below w.heap.size w wr ∧ accs lg k = true)) (fun vi _ _ => n - (intOf vi).toNat)
  case atStart => exact ⟨0, rfl, Nat.zero_le _, Below.refl _ _, rfl⟩
  case round =>
    obtain ⟨k, rfl, hk, hh⟩ := hrel
    have hw := hh.out.1
    have hsz := hw.size
    by_cases h : k < n
    · obtain ⟨g, o, rfl, hg, hc⟩ := HL.out _ hw (by omega)
      obtain ⟨c0, c1, hok⟩ := hc k h
      have hnb := Below.new wr (.cells #[.string (lg k).a, .int .i64 (lg k).x] 37)
      have hw2 := hw.trans (hnb.mono hsz)
      have a1 := accountFits_any Bf (lg k).a _ (HE.out _ hw2) (by have := hok.1; omega)
      have HW2 := Lib.hid hw2
      clear hc hw2 hnb hw
      cases hq : acFit (lg k).a with
      | false =>
        rw [hq] at a1
        have HF := Lib.hid (show ok = false by rw [HQ.out, accs_false h hq]; rfl)
        clear hq
        go_wp2_with fail
        refine a1.mono ?_
        rintro e w2 ⟨rfl, hb2⟩
        have hw3 := HW2.out.trans (hb2.mono HW2.out.size)
        have c22 := (HE.out _ hw3).cell 22 (by decide)
        have HW3 := Lib.hid hw3
        clear hb2 hw3
        go_wp2
        go_ret
        exact ChkPost.bad rfl HF.out HW3.out
      | true =>
        rw [hq] at a1
        have HF := Lib.hid (show accs lg (k + 1) = true by unfold accs; rw [hh.out.2, hq]; rfl)
        clear hq
        go_wp2_with fail
        refine a1.mono ?_
        rintro e w2 ⟨rfl, hb2⟩
        have HW3 := Lib.hid (HW2.out.trans (hb2.mono HW2.out.size))
        clear hb2
        go_wp2
        go_roundw
        case rel => exact ⟨k + 1, by go_num, by omega, HW3.out, HF.out⟩
        case measure => simp [intOf]; omega
    · obtain rfl : k = n := by omega
      have HA := Lib.hid hh.out.2
      have HW := Lib.hid hw
      clear hh hw
      go_wp2_with fail
      have HLP := Lib.hid (lp_start lg w wr HW.out)
      obtain ⟨gs, hgs⟩ : ∃ gs, gs = wr.heap.size := ⟨_, rfl⟩
      obtain ⟨bm, hbm⟩ : ∃ bm, bm = wr.heap.size + 1 := ⟨_, rfl⟩
      rw [← hbm, ← hgs] at HLP ⊢
      generalize (wr.alloc (.cells #[.bool false, .slice none 0 0] 62)).alloc (.map #[] 0) = w1 at *
      clear hgs hbm HW hsz h hk
      go_loopw [25, 8] (fun vi _ wx => ∃ j : Nat, vi = .int .i64 j ∧ j ≤ k ∧ Hid (Lp gs bm lg w.heap.size w wx j)) (fun vi _ _ => k - (intOf vi).toNat)
      case atStart => exact ⟨0, rfl, Nat.zero_le _, HLP⟩
      case round =>
        obtain ⟨j, rfl, hj, hh⟩ := hrel
        have hw := hh.out.bel
        have hsz := hw.size
        by_cases h2 : j < k
        · obtain ⟨g, o, rfl, hg, hc⟩ := HL.out _ hw (by omega)
          obtain ⟨c0, c1, hok⟩ := hc j h2
          have hnb := Below.new wr (.cells #[.string (lg j).a, .int .i64 (lg j).x] 37)
          have hbx := heap_alloc_new wr (.cells #[.string (lg j).a, .int .i64 (lg j).x] 37)
          have hw2 := hw.trans (hnb.mono hsz)
          have hlp := hh.out.below hnb
          have HGS := Lib.hid (show gs < wr.heap.size by have := hh.out.low; omega)
          have HH := hh
          have HC := Lib.hid hc
          clear hc hw hh
          cases e0 : ((lg j).x == 0) with
          | true =>
            have HF := Lib.hid (show ok = false by rw [HQ.out, amts_false h2 (show amtOk (lg j).x = false by unfold amtOk; rw [e0]; rfl), Bool.and_false]; rfl)
            have c12 := (HE.out _ hw2).cell 12 (by decide)
            have HW2 := Lib.hid hw2
            clear hw2
            go_wp2
            go_ret
            exact ChkPost.bad rfl HF.out HW2.out
          | false =>
            cases e1 : decide ((4611686018427387904 : Int) < (lg j).x) with
            | true =>
              have HF := Lib.hid (show ok = false by rw [HQ.out, amts_false h2 (show amtOk (lg j).x = false by unfold amtOk; rw [e0, e1]; rfl), Bool.and_false]; rfl)
              have c12 := (HE.out _ hw2).cell 12 (by decide)
              have HW2 := Lib.hid hw2
              clear hw2
              go_wp2
              go_ret
              exact ChkPost.bad rfl HF.out HW2.out
            | false =>
              cases e2 : decide ((lg j).x < -4611686018427387904) with
              | true =>
                have HF := Lib.hid (show ok = false by rw [HQ.out, amts_false h2 (show amtOk (lg j).x = false by unfold amtOk; rw [e0, e1, e2]; rfl), Bool.and_false]; rfl)
                have c12 := (HE.out _ hw2).cell 12 (by decide)
                have HW2 := Lib.hid hw2
                clear hw2
                go_wp2
                go_ret
                exact ChkPost.bad rfl HF.out HW2.out
              | false =>
                have ha : amtOk (lg j).x = true := by unfold amtOk; rw [e0, e1, e2]; rfl
                have hne0 : (lg j).x ≠ 0 := fun e => by rw [e] at e0; cases e0
                have hb1 := of_decide_eq_false e1
                have hb2 := of_decide_eq_false e2
                obtain ⟨v, hbig, hN⟩ := hlp.big
                have hlow := hlp.low
                have hsum := sumL_le j hlp.amt
                have hvl : ∀ q, v.ownBlock = some q → q < (wr.alloc (.cells #[.string (lg j).a, .int .i64 (lg j).x] 37)).heap.size := fun q e => (hN.block e).2.1
                have hkey := key_kl (lg j).a hok.1
                obtain ⟨wb, hwb⟩ : ∃ wb, wb = wr.alloc (.cells #[.string (lg j).a, .int .i64 (lg j).x] 37) := ⟨_, rfl⟩
                have n1 := Below.new wb (.cells #[.int .u64 ((lg j).x.natAbs : Nat)] 87)
                have n2 := Below.new (wb.alloc (.cells #[.int .u64 ((lg j).x.natAbs : Nat)] 87)) (.cells #[.bool (decide ((lg j).x < 0)), .slice (some ⟨wb.heap.size, 0, none⟩) 1 1] 62)
                have hgy := heap_alloc_new (wb.alloc (.cells #[.int .u64 ((lg j).x.natAbs : Nat)] 87)) (.cells #[.bool (decide ((lg j).x < 0)), .slice (some ⟨wb.heap.size, 0, none⟩) 1 1] 62)
                have z1 : (wb.alloc (.cells #[.int .u64 ((lg j).x.natAbs : Nat)] 87)).heap.size = wb.heap.size + 1 := by simp
                rw [z1] at hgy
                have hO := (blk_new wb (lg j).x.natAbs).below n2
                rw [← hwb] at hlp hbig hN hvl hlow hw2 hbx
                have hn12 := n1.trans (n2.mono (by omega))
                have hlp2 := hlp.below hn12
                have hbx2 := (hn12.block wr.heap.size (by rw [hwb]; simp)).trans hbx
                have a1 := newInt_any (lg j).x wb hne0 (by omega) (by omega)
                have a2 := bigAdd_any (bm + 1) gs wb.heap.size (wb.heap.size + 1) (sumL lg j) (lg j).x v _ ((hn12.block gs (by omega)).trans hbig) (hN.keep fun q e => hn12.block q (hvl q e)) hgy ⟨⟨_, hO, rfl⟩, by decide, by omega, by omega⟩ (fun e => Nat.lt_irrefl _ (hvl _ e)) (by have := hn12.size; omega) (by omega)
                have HX := Lib.hid (fun w2 v' => hlp2.added (w2 := w2) (v' := v') (Y := sumL lg j + (lg j).x) (hN.keep fun q e => hn12.block q (hvl q e)) hbx2 (by have := HGS.out; omega))
                have HWB := Lib.hid hwb; have HA := Lib.hid ha; have HKEY := Lib.hid hkey
                clear hwb hlp hlp2 hbig hN hlow hsum hvl n1 n2 hgy z1 hO hn12 hbx hbx2 ha hkey hw2 hnb
                go_wp2_with fail
                rw [← HWB.out]
                refine a1.mono ?_
                clear a1
                rintro e w' ⟨rfl, rfl⟩
                go_wp2_with fail
                refine a2.mono ?_
                clear a2
                rintro e w2 ⟨v', rfl, h3, h4, h5, _⟩
                obtain ⟨hm2, hbx3, hfin⟩ := HX.out w2 v' h3 h4 h5
                have q0 : w2.cell? ⟨wr.heap.size, 0, none⟩ = some (.string (lg j).a) := by unfold World.cell?; rw [hbx3]; rfl
                have hmx := hm2
                have HFIN := Lib.hid hfin
                clear h3 h4 h5 hbx3 hfin
                have hkey := HKEY.out
                obtain ⟨aj, haj⟩ : ∃ aj, aj = (lg j).a := ⟨_, rfl⟩
                have HAJ := Lib.hid haj
                rw [← haj] at hkey q0
                clear haj
                go_wp2_with (first
                  | (at_lookup; refine wpList_lookup_own_int _ rfl _ _ 63 rfl 9 3 .i64 law Tryz.underlying63 Tryz.underlying3 (zero3 _) bm j _ rfl hmx _ _ rfl hkey ?_; intro cc hat hwc)
                  | (at_mapUpdate; refine wpList_mapUpdate_own _ rfl _ _ _ 63 rfl 9 3 law Tryz.underlying63 _ bm j _ rfl hmx (by unfold maxLen; omega) _ _ _ rfl rfl hkey _ [] (plainElem_int Tryz.underlying3 (wrap64_wf _)) ?_; intro w3 hown3 hgrow3)
                  | go_in)
                have hs : seenD lg (j + 1) = (seenD lg j).put (kl aj) (.lit (.int .i64 (wrap64 (cc + 1)))) := by
                  show (seenD lg j).put (kl (lg j).a) (.lit (.int .i64 (wrap64 (numAt (seenD lg j) (kl (lg j).a) + 1)))) = _
                  rw [← HAJ.out, numAt_of hat]
                exact ⟨⟨j + 1, by go_num, by omega, Lib.hid (HFIN.out w3 (hs ▸ hown3) hgrow3 rfl HA.out)⟩, by simp [intOf]; omega⟩
        · obtain rfl : j = k := by omega
          obtain ⟨v, hbig, hN⟩ := hh.out.big
          have hown := hh.out.map
          have a3 := sign_any (bm + 1) gs (sumL lg j) wr ⟨v, hbig, hN⟩
          have HAM := Lib.hid hh.out.amt
          have HW := Lib.hid hw
          have c0 := (HE.out _ hw).cell 0 (by decide)
          clear hh hbig hN hw h2 hj
          cases eS : (Maps.size (seenD lg j) == j) with
          | false =>
            have HF := Lib.hid (show ok = false by rw [HQ.out, eS, Bool.and_false]; rfl)
            have hne : ¬ (Maps.size (seenD lg j) = j) := fun e => by rw [beq_iff_eq.mpr e] at eS; cases eS
            have hne2 : ¬ ((Maps.size (seenD lg j) : Int) = (j : Int)) := by omega
            clear a3 eS
            go_wp2_with (first
              | (at_len; refine wpList_len_own _ rfl _ 63 rfl 9 3 Tryz.underlying63 _ bm j _ rfl hown ?_)
              | go_in)
            go_ret
            exact ChkPost.bad rfl HF.out HW.out
          | true =>
            have heq : Maps.size (seenD lg j) = j := beq_iff_eq.mp eS
            cases e0 : (sgn (sumL lg j) == 0) with
            | false =>
              have HF := Lib.hid (show ok = false by rw [HQ.out, e0, Bool.and_false])
              have hne : ¬ (sgn (sumL lg j) = 0) := fun e => by rw [e] at e0; cases e0
              generalize sgn (sumL lg j) = sg at *
              clear eS e0
              go_wp2_with (first
                | (at_len; refine wpList_len_own _ rfl _ 63 rfl 9 3 Tryz.underlying63 _ bm j _ rfl hown ?_)
                | fail)
              refine a3.mono ?_
              rintro e w' ⟨rfl, rfl⟩
              go_wp2
              go_ret
              exact ChkPost.bad rfl HF.out HW.out
            | true =>
              have HF := Lib.hid (show ok = true by rw [HQ.out, HA.out, HAM.out, eS, e0]; rfl)
              have heq0 : sgn (sumL lg j) = 0 := beq_iff_eq.mp e0
              rw [heq0] at a3
              clear eS e0 heq0
              go_wp2_with (first
                | (at_len; refine wpList_len_own _ rfl _ 63 rfl 9 3 Tryz.underlying63 _ bm j _ rfl hown ?_)
                | fail)
              refine a3.mono ?_
              rintro e w' ⟨rfl, rfl⟩
              go_wp2
              go_ret
              rw [HF.out]
              exact ChkPost.good rfl HW.out
end Go.Proofs.YtodekiimkbejnaaGreatDoor
