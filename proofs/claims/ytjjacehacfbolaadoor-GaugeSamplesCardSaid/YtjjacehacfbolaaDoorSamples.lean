/- GaugeSamples: whatever the bits and the samples (at most 65536 of them are played), every Sample, Good and Text is the document's, to the last bit; the law answers true and what came in reads as before. The three tables of Go's library that the row lists are tied to the program's text. -/
import Derived.Test.YtjjacehacfbolaaDoorMain
import Derived.Test.YtjjacehacfbolaaDoorTie
import Derived.Test.YtjjacehacfbolaaDoorCards
import Derived.ProofKit
import Derived.OpenShut
import Derived.LaidMore
import Derived.Stop.Joined
import Derived.Stop.LaidErr
import Derived.ShutString
import Derived.ChangeOld
import Derived.Below
import Derived.SizedLaws
import Derived.SevenTiedAt
namespace Go.Proofs.YtjjacehacfbolaaDoor.gaugeSamples
open Go.ChangeShapes Go.WideShapes Go.ChangeAt Go.RowKit

theorem own : ownKnob Tryd.prog.godebug = none := by kernel_rfl
theorem laidOut : laidOutB Tryd.prog = true := by kernel_rfl
theorem bytes3 : Tryd.checked.prog.bytesOf 3 = 8 := by kernel_rfl
theorem gPow : Tryd.prog.globalNamed "internal/strconv.uint64pow10" = some 1 := by kernel_rfl
theorem tPow : (Tryd.prog.globals[1]?).map (·.type) = some 55 := by kernel_rfl

theorem door_met (os : Os) (args : Array Value) : laidMetH Tryd.prog Rows.gaugeSamplesRow.laid ((World.doorLaid Tryd.prog 24 os).forCall (fun _ _ => 0) ⟨#[], args, []⟩).memory :=
  laidMetH_of_parts3 (fuel := 8) (laidMet_of_run' 8 (by kernel_rfl) (by kernel_rfl)) (by kernel_rfl) (by kernel_rfl)

/-- What the condition gives the walk. -/
theorem of_laid {W : World} (h : laidMetH Tryd.prog Rows.gaugeSamplesRow.laid W) : Lib.TabIs Tryd.prog W "internal/strconv.uint64pow10" .u64 Lib.pow10Tab := by
  rw [MakeChecks.laidMetH_plain _ _ _ (by kernel_rfl)] at h
  exact Lib.tabIs_of_head (rest := []) gPow tPow Tryd.underlying55 Tryd.underlying38 (by kernel_rfl) (by kernel_rfl) h.tail.tail

theorem at_of_add {x : Addr} {g o : Nat} (hx : x = ⟨g, o, none⟩) (i : Nat) : x.add i = ⟨g, o + i, none⟩ := by
  subst hx; unfold Addr.add; split <;> simp_all

/-- A slice of ints that came in. -/
theorem open_i64s {H : Type} {enc : TypeId × Value → H} {w : World} {held : Bool} {v : Value} {d : DataW H} {p : List MemPlace} {b0 : Nat} (hv : Value.okWide Tryd.prog w .any b0 23 v) (h : DataW.Trod enc Tryd.prog w 0 (fun _ => true) held 23 v d p) :
    ∃ (A : Option Addr) (n c : Nat) (z : Nat → Int), v = .slice A n c ∧ n ≤ 9223372036854775800 ∧ Sl w A n (fun i => .int .i64 (z i)) ∨ ∃ (L R : List (DataW H)), v = .slice A n c ∧ n ≤ c ∧ d = .slice L R ∧ L.length + R.length = c ∧ Sl w A n (fun i => .int .i64 (z i)) := by
  obtain ⟨A, n, c, rfl⟩ := okWide_slice Tryd.underlying23 hv
  obtain ⟨fuel, hf⟩ := h
  rcases open_ints Tryd.underlying23 Tryd.underlying3 (by kernel_rfl) hf with ⟨hcs, hx⟩ | ⟨x, l, cap, zs, hcs, _, hl, hm, hz, hx, hcell, hwz⟩
  · simp [Value.cells] at hcs
    obtain ⟨rfl, rfl, rfl⟩ := hcs
    exact ⟨none, 0, 0, fun _ => 0, .inl ⟨rfl, by omega, fun h => absurd h (Nat.lt_irrefl _)⟩⟩
  · simp [Value.cells] at hcs
    obtain ⟨rfl, rfl, rfl⟩ := hcs
    simp only [Prod.mk.injEq] at hx
    simp only [if_true] at hz
    refine ⟨some x, n, c, fun i => zs.getD i 0, .inr ⟨lits .i64 (zs.take n), lits .i64 (zs.drop n), rfl, hl, hx.1, ?_, fun hn => ?_⟩⟩
    · simp [lits]; omega
    · obtain ⟨g, o, spot⟩ := x
      have hc := hcell 0 (by omega)
      have hspot : spot = none := by simpa [Addr.add] using World.cell?_spot hc
      subst hspot
      refine ⟨g, o, rfl, World.block_lt_of_cell? w _ (by simpa [Addr.add] using hc), fun i hi => ?_⟩
      have := hcell i (by omega)
      rwa [at_of_add rfl] at this

set_option maxRecDepth 100000 in
theorem lifted (os : Os) (started : os.Started) (H : Type) (enc : TypeId × Value → H) :
    ReturnsInHanded {} Tryd.checked os 3 .any (fun w args => (Rows.gaugeSamplesSpec.pre enc Tryd.prog Tryd.f3 [] false w args ∧ laidMetH Tryd.prog Rows.gaugeSamplesRow.laid w) ∧ sizedMet enc Tryd.prog Tryd.f3 (OpenSpec.ofChange Rows.gaugeSamplesSpec) false w args)
      (Rows.gaugeSamplesSpec.post enc Tryd.prog Tryd.f3 false true false false) := by
  refine returnsInHanded_of_change_and (C := Tryd.checked) (X := fun w _ => laidMetH Tryd.prog Rows.gaugeSamplesRow.laid w) (fun _ _ _ hh h => h.of_heap hh) own started (by kernel_rfl) Tryd.func3
    (ChangeSpec.witness_shaped (enc := enc) (C := Tryd.checked) (os := os) (X := fun w _ => laidMetH Tryd.prog Rows.gaugeSamplesRow.laid w) false (World.doorLaid Tryd.prog 24 os) #[.int .u32 0, .slice none 0 0] 8 rfl (World.shaped_of_RefB (by kernel_rfl) (by kernel_rfl)) (by kernel_rfl) (by kernel_rfl) (by kernel_rfl) (door_met os _)) ?_
  intro W base args ds gs before hval0 hW _ hsz hL _
  have hval : ∀ (j : Nat) t v, Tryd.f3.params[j]? = some t → args[j]? = some v → Value.okWide Tryd.prog W .any base t v := hval0
  have hW' := hW
  obtain ⟨p, q, hA0, hV, rfl, hfz, hnd⟩ := hW
  have hA : DataW.TrodAll enc Tryd.prog W 0 (fun _ => true) true Tryd.f3.params.toList args.toList ds p := hA0
  rw [Tryd.params3] at hA hval
  obtain ⟨v0, vs0, d0, ds0, p0, q0, hargs, rfl, rfl, h0, r0⟩ := trodAll_cons hA
  obtain ⟨v1, vs1, d1, ds1, p1, q1, rfl, rfl, rfl, h1, r1⟩ := trodAll_cons r0
  obtain ⟨rfl, rfl, rfl⟩ := trodAll_nil r1
  obtain rfl : args = #[v0, v1] := by cases args; simp_all
  obtain ⟨rfl, rfl⟩ := trodVars_none hV
  have lt1 : ∀ x ∈ p1, x.block < W.heap.size := by obtain ⟨m, hm⟩ := h1; exact DataW.trod_lt m _ _ _ hm
  obtain ⟨a0, rfl, rfl, rfl, w0⟩ := open_int Tryd.underlying22 (hval 0 22 v0 rfl rfl) h0
  obtain ⟨l0, u0⟩ := bounds_u32 w0
  obtain ⟨n0, rfl⟩ := Int.eq_ofNat_of_zero_le l0
  have htab := of_laid hL
  clear hA0 hval0
  have close : ∀ (A : Option Addr) (n c : Nat) (z : Nat → Int), v1 = .slice A n c → n ≤ 9223372036854775800 → Sl W A n (fun i => .int .i64 (z i)) →
      Calls Tryd.checked.prog 3 #[.int .u32 n0, v1] W fun e W' => ∃ v, e = .returned v ∧ Rows.gaugeSamplesSpec.post enc Tryd.checked.prog Tryd.f3 false true false false W #[.int .u32 n0, v1] v W' := by
    intro A n c z e1 hn hs
    subst e1
    refine (samples_walk n0 A n c z W (by omega) hs (by omega) htab).mono fun e W' ⟨he, bel⟩ => ?_
    subst he
    exact ⟨_, rfl, _, _, _, [], _, [], hW', trodAll_mk1 (shut_bool Tryd.underlying4 _), (trodAll_cons_mk (shut_int Tryd.underlying22 w0) (trodAll_cons_mk (Below.trod laidOut (by kernel_rfl) (of_decide_eq_true (by kernel_rfl)) h1 bel lt1) trodAll_mk0)), rfl, bel.frame _, fun h => by cases h⟩
  obtain ⟨A, n, c, z, hh⟩ := open_i64s (hval 1 23 v1 rfl rfl) h1
  rcases hh with ⟨e1, hn, hs⟩ | ⟨L, R, e1, hn, hd, hlen, hs⟩
  · exact close A n c z e1 hn hs
  · subst hd
    have := sized_slice hsz (j := 1) (t := 23) (e := 3) rfl rfl Tryd.underlying23
    rw [bytes3, hlen] at this
    have h47 := reachBytes_lt
    exact close A n c z e1 (by omega) hs

theorem over : Rows.GaugeSamplesSaid :=
  OpenClaim.holds_of_wide 3 Tryd.f3 rfl rfl rfl rfl rfl rfl rfl ⟨rfl, rfl, rfl, rfl, rfl⟩ rfl rfl rfl rfl rfl (by kernel_rfl) Tryd.func3 (by kernel_rfl)
    (of_decide_eq_true (by kernel_rfl)) (by unfold Func.isWrapper; first | (rw [if_pos (by decide +kernel)]; kernel_rfl) | (rw [if_neg (by decide +kernel)]; exact ⟨rfl, rfl⟩))
    (fun os started H enc _ => lifted os started H enc)
end Go.Proofs.YtjjacehacfbolaaDoor.gaugeSamples
namespace Go.Proofs.YtjjacehacfbolaaDoor
open Go
/-- The tied card: the statement. -/
theorem gaugeSamples_holds : Rows.GaugeSamplesCardSaid :=
  Claim7.holds_tied_plain_at .later [] [.data, .data, .data] true (true, "050bf06d29e4c0667f97209a4a0ae1356492fe63419528faa6f2973056a4feea") false
    gaugeSamples.over (fun _ h => by cases h) (by kernel_rfl) (fun _ h => by cases h) gaugeSamples_row_tie rfl ⟨rfl, rfl⟩ (by kernel_rfl) rfl
    (fun f fn hf hfn => by
      obtain rfl : f = 3 := Option.some.inj ((show Tryd.prog.funcNamed "remit/remitlaw23.GaugeSamples" = some 3 by kernel_rfl).symm.trans hf) |>.symm
      obtain rfl : fn = Tryd.f3 := (Option.some.inj (Tryd.func3.symm.trans hfn)).symm
      exact ⟨by kernel_rfl, fun j t ht => by
        rw [Tryd.params3] at ht
        have hm : t ∈ [22, 23] := by simpa using Array.mem_of_getElem? ht
        have hall : ([22, 23].all fun u => !Tryd.prog.wantsStandIn u) = true := by kernel_rfl
        exact (show Tryd.prog.wantsStandIn t = false by simpa using List.all_eq_true.1 hall t hm)⟩)
    (by kernel_rfl)
#print axioms gaugeSamples_holds
end Go.Proofs.YtjjacehacfbolaaDoor
