/- WireOneForm, walked: over any text, in whatever order of calls, the law answers true. -/
import Derived.Test.YtnodjcapclkmhaaDoorAgain2
import Derived.Test.YtnodjcapclkmhaaDoorFixed
import Derived.IntWalk
namespace Go.Proofs.YtnodjcapclkmhaaDoor
open Go.RowKit

/-- The round's facts: the Reader stands at p. -/
structure OnR (B g : Nat) (s : ByteArray) (w wr : World) (p : Nat) : Prop where
  rdr : Rdr wr g s p
  bel : Below B w wr
  le : p ≤ s.size
theorem Wri.fresh {B : Nat} (w : World) (h : B ≤ w.heap.size) : Wri (w.alloc (.cells #[.slice none 0 0] 71)) B w.heap.size [] none := new_buf w B 71 5 h

set_option maxRecDepth 100000 in
set_option maxHeartbeats 4000000 in
theorem one_walk (Bf : Nat → Addr) (s : ByteArray) (A : Option Addr) (n c : Nat) (ops : Nat → OpV) (w : World) (hE : Env w Bf) (hO : Ops w A n ops) (hI : ∀ i, i < n → (ops i).In) (hn : n ≤ 4000000000) (hs : s.size ≤ 4398046511104) :
    Calls Tryd.prog 7 #[.string s, .slice A n c] w fun e w' => e = .returned (.bool true) ∧ Below w.heap.size w w' := by
  have HE := Lib.hid hE; have HO := Lib.hid hO; have HI := Lib.hid hI; clear hE hO hI
  go_enter Tryd.func7, Tryd.ntmps7
  go_wp2_with fail
  refine (fixed_fact Bf _ HE.out).mono ?_
  rintro e w0 ⟨rfl, hb0⟩
  have HB0 := Lib.hid hb0
  have hsz0 := hb0.size
  clear hb0
  go_wp2_with fail
  refine (read_any s _).mono ?_
  rintro e w' ⟨rfl, rfl⟩
  have hR0 := new_rdr w0 s
  have HB1 := Lib.hid (HB0.out.trans ((Below.new w0 (.cells #[.string s, .int .i64 0] 85)).mono hsz0))
  have HR0 := Lib.hid hR0; clear hR0
  obtain ⟨g, hg⟩ : ∃ g, g = w0.heap.size := ⟨_, rfl⟩
  rw [← hg] at HR0 hsz0 ⊢
  generalize w0.alloc (.cells #[.string s, .int .i64 0] 85) = w1 at *
  clear hg
  go_wp2_with fail
  go_loopw [20, 6, 8, 9, 10, 11] (fun vi va _ _ _ _ wr => ∃ k p : Nat, vi = .int .i64 k ∧ va = .int .i64 p ∧ k ≤ n ∧ Hid (OnR w.heap.size g s w wr p)) (fun vi _ _ _ _ _ _ => n - (intOf vi).toNat)
  case atStart => exact ⟨0, 0, rfl, rfl, Nat.zero_le _, HR0.out, HB1.out, Nat.zero_le _⟩
  case round =>
    obtain ⟨k, p, rfl, rfl, hk, hh⟩ := hrel
    by_cases h : k < n
    · obtain ⟨gs, os, rfl, hgs, hcs⟩ := HO.out (by omega)
      obtain ⟨c0, c1, c2, c3, c4, c5, c6, c7, _⟩ := hcs k h
      have hg : ∀ (j : Nat) (v : Value), w.cell? ⟨gs, os + k * 8 + j, none⟩ = some v → wr.cell? ⟨gs, os + k * 8 + j, none⟩ = some v := fun j v hv => (hh.out.bel.cell (by exact hgs)).trans hv
      have d0 := hg 0 _ c0; have d1 := hg 1 _ c1; have d2 := hg 2 _ c2; have d3 := hg 3 _ c3; have d4 := hg 4 _ c4; have d5 := hg 5 _ c5; have d6 := hg 6 _ c6; have d7 := hg 7 _ c7
      rw [Nat.add_zero] at d0
      have HCS := Lib.hid hcs
      have hin := HI.out k h
      clear hcs hg c0 c1 c2 c3 c4 c5 c6 c7
      obtain ⟨o, hoe⟩ : ∃ o, ops k = o := ⟨_, rfl⟩
      rw [hoe] at d0 d1 d2 d3 d4 d5 d6 d7 hin
      have HOE := Lib.hid hoe; clear hoe
      have hv : o.val = .agg #[.int .i64 o.k, .bool o.sec, .int .u64 o.u, .int .i64 o.i, .int .i64 o.n, .int .i64 o.m, .string o.s, .slice o.A o.ln o.lc] := rfl
      have hnew := Below.new wr (.cells #[.int .i64 o.k, .bool o.sec, .int .u64 o.u, .int .i64 o.i, .int .i64 o.n, .int .i64 o.m, .string o.s, .slice o.A o.ln o.lc] 30)
      have hbsz : (wr.alloc (.cells #[.int .i64 o.k, .bool o.sec, .int .u64 o.u, .int .i64 o.i, .int .i64 o.n, .int .i64 o.m, .string o.s, .slice o.A o.ln o.lc] 30)).heap.size = wr.heap.size + 1 := by simp
      have hnew2 := Below.new (wr.alloc (.cells #[.int .i64 o.k, .bool o.sec, .int .u64 o.u, .int .i64 o.i, .int .i64 o.n, .int .i64 o.m, .string o.s, .slice o.A o.ln o.lc] 30)) (.cells #[.slice none 0 0] 71)
      have hsw := hh.out.bel.size
      have hbel2 := (hh.out.bel.trans (hnew.mono hsw)).trans (hnew2.mono (by omega))
      have hrd2 := (hh.out.rdr.below hnew).below hnew2
      have hgl := hh.out.rdr.cells.2.2.2
      have hwf := Wri.fresh (B := w.heap.size) (wr.alloc (.cells #[.int .i64 o.k, .bool o.sec, .int .u64 o.u, .int .i64 o.i, .int .i64 o.n, .int .i64 o.m, .string o.s, .slice o.A o.ln o.lc] 30)) (by omega)
      rw [hbsz] at hwf
      have P := again_any Bf w.heap.size g (wr.heap.size + 1) s p o _ (HE.out.base.below hbel2) hsz0 hrd2 hwf (by omega) hh.out.le hs hin
      rw [hv] at P
      have HBEL := Lib.hid hbel2
      clear hnew hnew2 hbel2 hrd2 hwf hv hin
      go_wp2_with fail
      refine (new_any _).mono ?_
      rintro e w' ⟨rfl, rfl⟩
      go_wp2_with fail
      refine P.mono ?_
      clear P
      rintro e w3 ⟨took, q, rfl, hpq, hq, hno, h1, h2, h3⟩
      have hb3 := HBEL.out.trans h3
      have a2 := fun n => left_any g s q (w3.drewN n) (h1.drewN n) hq (by omega)
      have HR3 := Lib.hid h1; have HB3 := Lib.hid hb3
      have hl3 : IntKind.i64.wrap ((s.size : Int) - (q : Int)) = ((s.size - q : Nat) : Int) := by
        rw [IntWalk.i64_in _ (by omega)]; omega
      have hl4 : decide (q < p) = false := decide_eq_false (by omega)
      have hl5 : decide (s.size < q) = false := decide_eq_false (by omega)
      have ha1 := at_any g s q w3 h1
      generalize s.size - q = m at a2 hl3
      clear h1 h3 hb3 hbsz HBEL
      cases took with
      | false =>
        obtain rfl := hno rfl
        clear h2 hno
        go_wp2_with fail
        refine ha1.mono ?_
        rintro e w' ⟨rfl, rfl⟩
        go_wp2_with fail
        go_quiet ((go_at_call 24; exact Calls.quiet_of (a2 _)))
        go_wp2
        go_roundw
        case rel => exact ⟨k + 1, q, by go_num, rfl, by omega, HR3.out.drewN _, below_drewN HB3.out _, hq⟩
        case measure => simp [intOf]; omega
      | true =>
        obtain ⟨r2, h4⟩ := h2 rfl
        have a3 := fun n => out_any w.heap.size (wr.heap.size + 1) _ r2 (w3.drewN n) (show Wri (w3.drewN n) _ _ _ _ from h4)
        rw [str_rng hq] at a3
        have hs2 : (s.extract p q).toList = (s.extract p q).toList := rfl
        clear h2 hno h4
        go_wp2_with fail
        refine ha1.mono ?_
        rintro e w' ⟨rfl, rfl⟩
        go_wp2_with fail
        go_quiet ((first | (go_at_call 24; exact Calls.quiet_of (a2 _)) | (go_at_call 13; exact Calls.quiet_of_same ((a3 _).mono fun _ _ h => ⟨h.1, h.2.symm⟩))))
        go_wp2
        go_roundw
        case rel => exact ⟨k + 1, q, by go_num, rfl, by omega, HR3.out.drewN _, below_drewN HB3.out _, hq⟩
        case measure => simp [intOf]; omega
    · obtain rfl : k = n := by omega
      go_wp2_with fail
      go_ret
      exact ⟨rfl, hh.out.bel⟩
end Go.Proofs.YtnodjcapclkmhaaDoor
