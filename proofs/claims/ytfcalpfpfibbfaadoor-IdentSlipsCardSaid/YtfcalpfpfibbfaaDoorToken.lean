/- ident.Token and the reference's Token: walked. -/
import Derived.Test.YtfcalpfpfibbfaaDoorTok
import Derived.Lib.AppendIntMem
namespace Go.Proofs.YtfcalpfpfibbfaaDoor
open Go.RowKit Go.Sort

theorem below_grow (w : World) (k : Nat) (os : Array Obj) : Below w.heap.size w (grow (w.drewN k) os) :=
  ⟨rfl, rfl, rfl, by simp [grow, World.drewN], fun i hi => heap_grow_old (w.drewN k) os hi⟩
theorem env34 {w : World} {B : Nat → Addr} (h : Env4 w B) : Env3 w B := EnvN.sub h (by decide)
abbrev Tab (w : World) : Prop := Lib.TabIs Tryd.prog w "internal/strconv.uint64pow10" .u64 Lib.pow10Tab

theorem rep0_any (c : Nat) (w : World) (hc : c ≤ 140737488355328) : Calls Tryd.prog 37 #[.string { data := #[48] }, .int .i64 c] w fun e w' => e = .returned (.string (repS 48 c)) ∧ Below w.heap.size w w' :=
  Tryd.strings_Repeat { data := #[48] } c w (by omega) (by show 1 * c ≤ _; omega)
theorem itoa_any (n : Nat) (w : World) (h : n < 1000000000000) (htab : Tab w) : Calls Tryd.prog 42 #[.int .i64 n] w fun e w' => e = .returned (.string ⟨(Lib.itoa n).toArray⟩) ∧ Below w.heap.size w w' :=
  (Tryd.strconv_Itoa n (by omega) (by omega) w htab).mono fun e w' ⟨he, k, os, hw⟩ => ⟨he, by rw [hw]; exact below_grow w k os⟩

theorem tokS_bad {n : Int} (h : tokOk n = false) : tokS n = ⟨#[]⟩ ∧ tokE n = 6 := by unfold tokS tokE; rw [h]; exact ⟨rfl, rfl⟩
theorem tokS_good {n : Int} (h : tokOk n = true) {d : ByteArray} (hd : digO (tok n.toNat) = some d) : tokS n = tok n.toNat ++ d ∧ tokE n = 0 := by
  unfold tokS tokE; rw [h, hd]; exact ⟨rfl, rfl⟩
theorem ev_6 (B : Nat → Addr) : ev B 6 = .iface 105 (.pointer (some (B 1))) := rfl

set_option maxRecDepth 100000 in
set_option maxHeartbeats 1000000 in
theorem token_any (B : Nat → Addr) (n : Int) (w : World) (hE : Env4 w B) (htab : Tab w) :
    Calls Tryd.prog 23 #[.int .i64 n] w fun e w' => e = .returned (.tuple #[.string (tokS n), ev B (tokE n)]) ∧ Below w.heap.size w w' := by
  have c1 := hE.cell 1 (by decide)
  have HE := Lib.hid hE; clear hE
  by_cases h1 : n < 1
  · have hk : tokOk n = false := by unfold tokOk; rw [decide_eq_false (by omega)]; rfl
    rw [(tokS_bad hk).1, (tokS_bad hk).2, ev_6]
    clear hk
    go_enter Tryd.func23, Tryd.ntmps23
    go_wp2
    go_quiet (fail)
    go_wp2
    go_ret2
    exact ⟨rfl, below_drewN (Below.refl _ _) _⟩
  · by_cases h2 : 999999999999 < n
    · have hk : tokOk n = false := by unfold tokOk; rw [decide_eq_false (show ¬ n ≤ 999999999999 by omega), Bool.and_false]
      rw [(tokS_bad hk).1, (tokS_bad hk).2, ev_6]
      clear hk
      go_enter Tryd.func23, Tryd.ntmps23
      go_wp2
      go_quiet (fail)
      go_wp2
      go_ret2
      exact ⟨rfl, below_drewN (Below.refl _ _) _⟩
    · have hk : tokOk n = true := by unfold tokOk; rw [decide_eq_true (by omega), decide_eq_true (by omega)]; rfl
      obtain ⟨m, rfl⟩ : ∃ m : Nat, n = m := ⟨n.toNat, by omega⟩
      obtain ⟨d, hd, sd⟩ := tok_dig m
      obtain ⟨e1, e2⟩ := tokS_good hk (d := d) hd
      rw [e1, e2, ev_0]
      simp only [Int.toNat_natCast]
      have hm : m < 1000000000000 := by omega
      obtain ⟨i1, i2, i3⟩ := itoa_d12 (n := m) (by omega)
      have a1 := itoa_any m w hm htab
      have a3 := fun w hE => digits_any B (tok m) w hE (by rw [tok_size]; omega)
      unfold digV at a3
      rw [hd] at a3
      simp only at a3
      have zr := repS_size 48 (12 - Lib.nDigits m)
      have hT : tok m = { data := #[80] } ++ repS 48 (12 - Lib.nDigits m) ++ ⟨(Lib.itoa m).toArray⟩ := by
        unfold tok; rw [← i3, ByteArray.append_assoc]; rfl
      have a2 := fun w => rep0_any (12 - Lib.nDigits m) w (by omega)
      have hw : IntKind.i64.wrap (12 - (Lib.nDigits m : Int)) = ((12 - Lib.nDigits m : Nat) : Int) := by rw [IntKind.wrap_i64]; omega
      have zt := tok_size m
      have HD := Lib.hid hd; clear hd
      rw [hT] at a3 zt ⊢
      rw [← i2] at hw a2 zr zt hT i1 a3 ⊢
      have HI := Lib.hid (And.intro i2 (And.intro i3 hT)); clear i2 i3 hT
      generalize (⟨(Lib.itoa m).toArray⟩ : ByteArray) = it at *
      generalize hr : repS 48 (12 - it.size) = r at *
      clear hr
      go_enter Tryd.func23, Tryd.ntmps23
      go_wp2_with fail
      refine a1.mono ?_
      rintro e w1 ⟨rfl, hb1⟩
      have HB1 := Lib.hid hb1; clear hb1
      go_wp2_with fail
      refine (a2 _).mono ?_
      rintro e w2 ⟨rfl, hb2⟩
      have HB2 := Lib.hid (HB1.out.trans (hb2.mono HB1.out.size)); clear hb2
      go_wp2_with fail
      have he3 := env34 (HE.out.below HB2.out)
      have a3' := a3 w2 he3
      refine a3'.mono ?_
      rintro e w3 ⟨rfl, hb3⟩
      have HB3 := Lib.hid (HB2.out.trans (hb3.mono HB2.out.size)); clear hb3
      go_wp2_with fail
      go_ret2
      exact ⟨rfl, HB3.out⟩
end Go.Proofs.YtfcalpfpfibbfaaDoor
