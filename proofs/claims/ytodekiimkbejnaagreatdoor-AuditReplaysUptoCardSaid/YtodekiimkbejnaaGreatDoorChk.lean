/- posting.Check: walked. -/
import Derived.Test.YtodekiimkbejnaaGreatDoorLegs
namespace Go.Proofs.YtodekiimkbejnaaGreatDoor
open Go.RowKit Go.WideMaps Go.Maps

/-- A posting. -/
structure PostV where
  id : ByteArray
  tick : Int
  note : ByteArray
  A : Option Addr
  n : Nat
  c : Nat
  lg : Nat → LegV
def PostV.val (p : PostV) : Value := .agg #[.string p.id, .int .i64 p.tick, .string p.note, .slice p.A p.n p.c]
def PostV.sized (p : PostV) : Prop := p.id.size ≤ 140737488351232 ∧ p.note.size ≤ 140737488351232 ∧ p.n ≤ 140737488351232
def nOk (n : Nat) : Bool := !decide ((n : Int) < 2) && !decide ((8 : Int) < (n : Int))
def tickOk (t : Int) : Bool := !decide (t < 0) && !decide ((1099511627776 : Int) < t)
def pOkB (id : ByteArray) (tick : Int) (note : ByteArray) (n : Nat) (lg : Nat → LegV) : Bool :=
  idFit id && tickOk tick && !decide ((255 : Int) < (note.size : Int)) && nOk n && legsOk lg n
/-- Does Check find the posting good? -/
def pOk (p : PostV) : Bool := pOkB p.id p.tick p.note p.n p.lg

set_option maxRecDepth 100000 in
set_option maxHeartbeats 4000000 in
theorem check_raw (Bf : Nat → Addr) (id : ByteArray) (tick : Int) (note : ByteArray) (A : Option Addr) (n c : Nat) (lg : Nat → LegV) (w : World) (hE : Env w Bf) (hL : LegsAt w A n lg) (hAb : 0 < n → ∀ a, A = some a → a.block < w.heap.size)
    (s1 : id.size ≤ 140737488351232) (s2 : note.size ≤ 140737488351232) (s3 : n ≤ 140737488351232) :
    Calls Tryz.prog 10 #[.agg #[.string id, .int .i64 tick, .string note, .slice A n c]] w (ChkPost (pOkB id tick note n lg) w) := by
  have hnb := Below.new w (.cells #[.string id, .int .i64 tick, .string note, .slice A n c] 35)
  have hz : (w.alloc (.cells #[.string id, .int .i64 tick, .string note, .slice A n c] 35)).heap.size = w.heap.size + 1 := by simp
  have hE2 := hE.below hnb
  have hL2 := hL.below hAb hnb
  have a1 := idFits_any Bf id _ hE2 (by omega)
  have c2 := hE2.cell 2 (by decide)
  have c3 := hE2.cell 3 (by decide)
  have c4 := hE2.cell 4 (by decide)
  have c0 := hE2.cell 0 (by decide)
  have HNB := Lib.hid hnb
  have HQ := Lib.hid (show pOkB id tick note n lg = (idFit id && tickOk tick && !decide ((255 : Int) < (note.size : Int)) && nOk n && legsOk lg n) from rfl)
  have A2 := Lib.hid (fun hn : n ≤ 8 => checkLegs_any Bf A n c lg _ hE2 hL2 (fun h a e => by have := hAb h a e; omega) hn)
  generalize pOkB id tick note n lg = ok at *
  clear hE hE2 hL hL2 hAb hnb hz s3
  cases h1 : idFit id with
  | false =>
    have HF := Lib.hid (show ok = false by rw [HQ.out, h1]; rfl)
    rw [h1] at a1
    clear h1
    go_enter Tryz.func10, Tryz.ntmps10
    go_wp2_with fail
    refine a1.mono ?_
    rintro e w' ⟨rfl, rfl⟩
    go_wp2
    go_ret
    exact ChkPost.bad rfl HF.out HNB.out
  | true =>
    have H1 := Lib.hid h1
    rw [h1] at a1
    clear h1
    cases t1 : decide (tick < 0) with
    | true =>
      have HF := Lib.hid (show ok = false by rw [HQ.out, show tickOk tick = false by unfold tickOk; rw [t1]; rfl]; simp)
      go_enter Tryz.func10, Tryz.ntmps10
      go_wp2_with fail
      refine a1.mono ?_
      rintro e w' ⟨rfl, rfl⟩
      go_wp2
      go_ret
      exact ChkPost.bad rfl HF.out HNB.out
    | false =>
      cases t2 : decide ((1099511627776 : Int) < tick) with
      | true =>
        have HF := Lib.hid (show ok = false by rw [HQ.out, show tickOk tick = false by unfold tickOk; rw [t1, t2]; rfl]; simp)
        go_enter Tryz.func10, Tryz.ntmps10
        go_wp2_with fail
        refine a1.mono ?_
        rintro e w' ⟨rfl, rfl⟩
        go_wp2
        go_ret
        exact ChkPost.bad rfl HF.out HNB.out
      | false =>
        cases e1 : decide ((255 : Int) < (note.size : Int)) with
        | true =>
          have HF := Lib.hid (show ok = false by rw [HQ.out, e1]; simp)
          go_enter Tryz.func10, Tryz.ntmps10
          go_wp2_with fail
          refine a1.mono ?_
          rintro e w' ⟨rfl, rfl⟩
          go_wp2
          go_ret
          exact ChkPost.bad rfl HF.out HNB.out
        | false =>
          cases n1 : decide ((n : Int) < 2) with
          | true =>
            have HF := Lib.hid (show ok = false by rw [HQ.out, show nOk n = false by unfold nOk; rw [n1]; rfl]; simp)
            go_enter Tryz.func10, Tryz.ntmps10
            go_wp2_with fail
            refine a1.mono ?_
            rintro e w' ⟨rfl, rfl⟩
            go_wp2
            go_ret
            exact ChkPost.bad rfl HF.out HNB.out
          | false =>
            cases n2 : decide ((8 : Int) < (n : Int)) with
            | true =>
              have HF := Lib.hid (show ok = false by rw [HQ.out, show nOk n = false by unfold nOk; rw [n1, n2]; rfl]; simp)
              go_enter Tryz.func10, Tryz.ntmps10
              go_wp2_with fail
              refine a1.mono ?_
              rintro e w' ⟨rfl, rfl⟩
              go_wp2
              go_ret
              exact ChkPost.bad rfl HF.out HNB.out
            | false =>
              have HF := Lib.hid (show ok = legsOk lg n by rw [HQ.out, H1.out, show tickOk tick = true by unfold tickOk; rw [t1, t2]; rfl, e1, show nOk n = true by unfold nOk; rw [n1, n2]; rfl]; rfl)
              have hn8 := of_decide_eq_false n2
              have a2 := A2.out (by omega)
              clear A2
              generalize legsOk lg n = ok2 at *
              go_enter Tryz.func10, Tryz.ntmps10
              go_wp2_with fail
              refine a1.mono ?_
              rintro e w' ⟨rfl, rfl⟩
              go_wp2_with fail
              refine a2.mono ?_
              rintro e w' ⟨⟨v, rfl, hv⟩, hb⟩
              have HB := Lib.hid (HNB.out.trans (hb.mono HNB.out.size))
              have HV := Lib.hid hv
              clear hv hb
              go_wp2
              go_ret
              rw [HF.out]
              exact ⟨⟨_, rfl, HV.out⟩, HB.out⟩

theorem check_post (Bf : Nat → Addr) (p : PostV) (w : World) (hE : Env w Bf) (hL : LegsAt w p.A p.n p.lg) (hAb : 0 < p.n → ∀ a, p.A = some a → a.block < w.heap.size) (hs : p.sized) :
    Calls Tryz.prog 10 #[p.val] w (ChkPost (pOk p) w) := check_raw Bf p.id p.tick p.note p.A p.n p.c p.lg w hE hL hAb hs.1 hs.2.1 hs.2.2
end Go.Proofs.YtodekiimkbejnaaGreatDoor
