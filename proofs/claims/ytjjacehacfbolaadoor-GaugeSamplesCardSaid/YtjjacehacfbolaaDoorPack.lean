/- The document's pack and cut, walked. -/
import Derived.Test.YtjjacehacfbolaaDoorRows
import Derived.Test.YtjjacehacfbolaaDoorNum
import Derived.WalkKit
import Derived.WalkLawsBesides
import Derived.Lib.Hide
import Derived.Deep.LoopGhost
namespace Go.Proofs.YtjjacehacfbolaaDoor
open Go.RowKit

/-- A number in memory: block g holds m and e. -/
structure Num (w : World) (g : Nat) (m : Nat) (e : Int) : Prop where
  m : w.cell? ⟨g, 0, none⟩ = some (.int .u64 m)
  e : w.cell? ⟨g, 1, none⟩ = some (.int .i64 e)
  fm : w.frozen? ⟨g, 0, none⟩ = false
  fe : w.frozen? ⟨g, 1, none⟩ = false

theorem Num.both {w : World} {g m : Nat} {e : Int} (h : Num w g m e) (m' : Nat) (e' : Int) : Num ((w.setCell ⟨g, 0, none⟩ (.int .u64 m')).setCell ⟨g, 1, none⟩ (.int .i64 e')) g m' e' := by
  refine ⟨?_, ?_, ?_, ?_⟩
  · rw [World.cell?_setCell_other _ _ _ _ (by simp)]; exact World.cell?_setCell_same _ _ _ h.m
  · refine World.cell?_setCell_same _ _ _ (u := .int .i64 e) ?_
    rw [World.cell?_setCell_other _ _ _ _ (by simp)]; exact h.e
  · simp [h.fm]
  · simp [h.fe]

theorem ret_u {k : IntKind} {a b : Int} (h : a = b) : Ending.returned (.int k a) = .returned (.int k b) := by rw [h]

set_option maxRecDepth 100000 in
set_option maxHeartbeats 1000000 in
theorem pack_some (m : Nat) (e : Int) (w : World) (hm : m ≤ 16777216) (he : -149 ≤ e) (h0 : m ≠ 0) (hX : Rnd.X m e ≤ 2 ^ 176) :
    Calls Tryd.prog 23 #[.agg #[.int .u64 m, .int .i64 e]] w fun r w' => r = .returned (.int .u32 (Rnd.R (Rnd.X m e))) ∧ Below w.heap.size w w' := by
  have hb : e ≤ 0 := by have := Rnd.X_le_log (by omega) h0 hX; omega
  have HX := Lib.hid hX; clear hX
  go_enter Tryd.func23, Tryd.ntmps23
  go_wp2
  go_loopg [7] (e + 149).toNat (fun gk _ wr => ∃ (m' : Nat) (e' : Int), 0 < m' ∧ m' ≤ 16777216 ∧ -149 ≤ e' ∧ e' ≤ e ∧ gk = (e' + 149).toNat ∧ Hid (Rnd.X m' e' = Rnd.X m e) ∧ Num wr w.heap.size m' e' ∧ Below w.heap.size w wr ∧ w.heap.size < wr.heap.size)
  case atStart => exact ⟨m, e, by omega, hm, he, by omega, rfl, rfl, ⟨by simp, by simp, by simp, by simp⟩, (Below.refl _ _).alloc (Nat.le_refl _) _, by simp⟩
  case round =>
    obtain ⟨m', e', hm0, hm1, he0, he1, rfl, hx, hnum, hbel, hsz⟩ := hrel
    have c1 := hnum.m
    have c2 := hnum.e
    have f1 := hnum.fm
    have f2 := hnum.fe
    have HB := Lib.hid hbel; clear hbel
    have i0 : 0 < (m' : Int) := by omega
    have i1 : (m' : Int) ≤ 16777216 := by omega
    have HM1 := Lib.hid hm1; clear hm1
    have HM0 := Lib.hid hm0; clear hm0
    have HM := Lib.hid hm; clear hm
    by_cases h1 : (m' : Int) < 8388608
    · by_cases h2 : -149 < e'
      · go_wp2
        go_roundg (e' - 1 + 149).toNat
        case rel =>
          refine ⟨m' * 2, e' - 1, by have := HM0.out; omega, by omega, by omega, by omega, rfl, (by rw [Nat.mul_comm]; exact (Rnd.X_double (by omega)).trans hx.out), hnum.both _ _, (HB.out.setCell (Nat.le_refl _) _).setCell (Nat.le_refl _) _, by simpa using hsz⟩
        case measure => omega
      · have : e' = -149 := by omega
        subst this
        have hge : decide ((16777216 : Int) ≤ (m' : Int)) = false := by simp; omega
        have hlt : decide ((m' : Int) < 8388608) = true := by simpa using h1
        clear i1 h1 i0
        go_wp2
        go_ret
        refine ⟨ret_u ?_, HB.out⟩
        simp only [decide_eq_true_eq] at hlt
        have HM0' := HM0.out
        rw [← hx.out, Rnd.pack_end (by omega) (by omega) (.inr rfl), if_neg (by omega), if_pos (by omega)]
        omega
    · by_cases h2 : m' = 16777216
      · subst h2
        go_wp2
        go_ret
        refine ⟨ret_u ?_, (HB.out.setCell (Nat.le_refl _) _).setCell (Nat.le_refl _) _⟩
        rw [← hx.out, Rnd.pack_end (by omega) (by omega) (.inl (by omega)), if_pos rfl]
        omega
      · have hge : decide ((16777216 : Int) ≤ (m' : Int)) = false := by simp; omega
        have hlt : decide ((m' : Int) < 8388608) = false := by simpa using h1
        have b1 : (0 : Int) ≤ e' + 150 := by omega
        have b2 : e' + 150 ≤ 150 := by omega
        have b3 : (0 : Int) ≤ (m' : Int) - 8388608 := by omega
        have b4 : (m' : Int) - 8388608 ≤ 8388607 := by omega
        clear i1 h1 i0 h2
        go_wp2
        go_ret
        refine ⟨ret_u ?_, HB.out⟩
        simp only [decide_eq_false_iff_not] at hlt hge
        have HM1' := HM1.out
        rw [← hx.out, Rnd.pack_end (by omega) (by omega) (.inl (by omega)), if_neg (by omega), if_neg (by omega)]
        omega
theorem pack_zero (e : Int) (w : World) : Calls Tryd.prog 23 #[.agg #[.int .u64 0, .int .i64 e]] w fun r w' => r = .returned (.int .u32 0) ∧ Below w.heap.size w w' := by
  go_enter Tryd.func23, Tryd.ntmps23
  go_wp2
  go_ret
  exact ⟨rfl, (Below.refl _ _).alloc (Nat.le_refl _) _⟩

/-- pack: the rung. -/
theorem pack_any (m : Nat) (e : Int) (w : World) (hm : m ≤ 16777216) (he : -149 ≤ e) (hX : Rnd.X m e ≤ 2 ^ 176) :
    Calls Tryd.prog 23 #[.agg #[.int .u64 m, .int .i64 e]] w fun r w' => r = .returned (.int .u32 (Rnd.R (Rnd.X m e))) ∧ Below w.heap.size w w' := by
  by_cases h0 : m = 0
  · subst h0
    have : Rnd.X 0 e = 0 := by unfold Rnd.X; omega
    rw [this, Rnd.R_zero]
    exact pack_zero e w
  · exact pack_some m e w hm he h0 hX

set_option maxRecDepth 100000 in
set_option maxHeartbeats 1000000 in
theorem cut_any (m : Nat) (e : Int) (w : World) (hm : m < 9223372036854775808) (he : -176 ≤ e) (hc : 16777216 ≤ m ∨ e < -149) (hX : Rnd.X m e ≤ 2 ^ 176) :
    Calls Tryd.prog 22 #[.agg #[.int .u64 m, .int .i64 e]] w fun r w' => r = .returned (.int .u32 (Rnd.R (Rnd.X m e))) ∧ Below w.heap.size w w' := by
  obtain ⟨hb, hN, hN1, fF1, fF2, fX, fR⟩ := Rnd.cut_facts hm he hc hX
  have FF := Lib.hid (And.intro fF1 fF2); clear fF1 fF2
  have FX := Lib.hid fX; clear fX
  have FR := Lib.hid fR; clear fR
  have HX := Lib.hid hX; clear hX
  have HC := Lib.hid hc; clear hc
  have HM := Lib.hid hm; clear hm
  have T := Lib.hid (fun k => @Rnd.cutN_test m k e)
  generalize hn : Rnd.cutN m e = N at *
  have HN := Lib.hid hn; clear hn
  go_enter Tryd.func22, Tryd.ntmps22
  go_wp2
  go_loop [3] (fun i => ∃ k : Nat, k ≤ N ∧ i = .int .i64 k) (fun i => N - (intOf i).toNat)
  case atStart => exact ⟨0, Nat.zero_le _, rfl⟩
  case round =>
    obtain ⟨k, hk, rfl⟩ := hrel
    have hk40 : k ≤ 39 := by omega
    have Tk := Lib.hid (T.out k)
    obtain ⟨q, hq⟩ : ∃ q : Nat, q = m / 2 ^ k := ⟨_, rfl⟩
    have cq : (m : Int) / 2 ^ k = (q : Int) := by rw [hq]; simp
    have HQ := Lib.hid hq; clear hq
    by_cases hlt : k < N
    · have hgo := Tk.out.2 hlt
      rw [← HQ.out] at hgo
      by_cases h1 : 16777216 ≤ q
      · have t1 : decide ((16777216 : Int) ≤ (q : Int)) = true := by simpa using (show (16777216 : Int) ≤ (q : Int) by omega)
        clear h1 hgo
        go_wp2
        go_round
        case rel => exact ⟨k + 1, by omega, by go_num⟩
        case measure => simp [intOf]; omega
      · have t1 : decide ((16777216 : Int) ≤ (q : Int)) = false := by simpa using (show (q : Int) < (16777216 : Int) by omega)
        have t2 : decide (e + (k : Int) < -149) = true := by have := hgo.resolve_left h1; simpa using this
        clear h1 hgo
        go_wp2
        go_round
        case rel => exact ⟨k + 1, by omega, by go_num⟩
        case measure => simp [intOf]; omega
    · have hkN : k = N := by omega
      subst hkN
      have hno := fun h => hlt (Tk.out.1 h)
      rw [← HQ.out] at hno
      obtain ⟨n1, n2⟩ := not_or.1 hno
      have hq24 : q < 16777216 := by omega
      have t1 : decide ((16777216 : Int) ≤ (q : Int)) = false := by simpa using (show (q : Int) < (16777216 : Int) by omega)
      have t2 : decide (e + (k : Int) < -149) = false := by simpa using (show (-149 : Int) ≤ e + (k : Int) by omega)
      have HQ24 := Lib.hid hq24; clear hq24
      clear hno hlt
      have wk : IntKind.u64.wrap ((2 : Int) ^ k) = ((2 ^ k : Nat) : Int) := by
        have h1 : 2 ^ k ≤ 2 ^ 39 := Nat.pow_le_pow_right (by decide) hk40
        have h2 : ((2 : Int) ^ k) = ((2 ^ k : Nat) : Int) := by simp
        have h0 := Nat.two_pow_pos k
        rw [h2, IntKind.wrap_u64]
        generalize 2 ^ k = P at *
        omega
      have wh : IntKind.u64.wrap ((2 : Int) ^ (k - 1)) = ((2 ^ (k - 1) : Nat) : Int) := by
        have h1 : 2 ^ (k - 1) ≤ 2 ^ 39 := Nat.pow_le_pow_right (by decide) (by omega)
        have h2 : ((2 : Int) ^ (k - 1)) = ((2 ^ (k - 1) : Nat) : Int) := by simp
        have h0 := Nat.two_pow_pos (k - 1)
        rw [h2, IntKind.wrap_u64]
        generalize 2 ^ (k - 1) = P at *
        omega
      have hp : 0 < 2 ^ k := Nat.two_pow_pos k
      have hR := Lib.hid (@Rnd.rhe_half m k hN1)
      have hF := FF
      have hXX := FX
      have hRR := FR
      clear FF FX FR
      obtain ⟨L, hL⟩ : ∃ L : Nat, L = m % 2 ^ k := ⟨_, rfl⟩
      rw [← hL, ← HQ.out] at hR
      have cl : (m : Int) % ((2 ^ k : Nat) : Int) = (L : Int) := by rw [hL]; simp
      generalize 2 ^ k = P at *
      generalize 2 ^ (k - 1) = Q at *
      have nz : ¬ ((P : Int) = 0) := by omega
      have HL := Lib.hid hL; clear hL
      have w3 : IntKind.u64.wrap ((q : Int) + 1) = ((q + 1 : Nat) : Int) := by
        have := HQ24.out
        rw [IntKind.wrap_u64]; omega
      by_cases c1 : Q < L
      · have E : Rnd.rhe m k = q + 1 := by rw [hR.out, if_pos (.inl c1)]
        rw [E] at hF hXX hRR
        have HE := Lib.hid E; clear E hR
        go_wp2_with (go_at_call 23; refine (pack_any (q + 1) _ _ hF.out.1 hF.out.2 hXX.out).mono ?_; rintro r w' ⟨rfl, hbel⟩)
        go_ret
        refine ⟨ret_u (by rw [hRR.out]), Below.trans ?_ (hbel.mono (by simp <;> omega))⟩
        repeat (first | exact Below.refl _ _ | refine Below.setCell ?_ (by simp) _ | refine Below.alloc ?_ (by simp) _)
      · by_cases c2 : L = Q
        · by_cases c3 : q % 2 = 1
          · have E : Rnd.rhe m k = q + 1 := by rw [hR.out, if_pos (.inr ⟨c2, c3⟩)]
            rw [E] at hF hXX hRR
            have HE := Lib.hid E; clear E hR
            have c4 : ((q : Int) % 2 == 1) = true := by simp; omega
            clear c3
            subst c2
            go_wp2_with (go_at_call 23; refine (pack_any (q + 1) _ _ hF.out.1 hF.out.2 hXX.out).mono ?_; rintro r w' ⟨rfl, hbel⟩)
            go_ret
            refine ⟨ret_u (by rw [hRR.out]), Below.trans ?_ (hbel.mono (by simp <;> omega))⟩
            repeat (first | exact Below.refl _ _ | refine Below.setCell ?_ (by simp) _ | refine Below.alloc ?_ (by simp) _)
          · have E : Rnd.rhe m k = q := by rw [hR.out, if_neg (by omega)]; rfl
            rw [E] at hF hXX hRR
            have HE := Lib.hid E; clear E hR
            have c4 : ((q : Int) % 2 == 1) = false := by simp; omega
            clear c3
            subst c2
            go_wp2_with (go_at_call 23; refine (pack_any q _ _ hF.out.1 hF.out.2 hXX.out).mono ?_; rintro r w' ⟨rfl, hbel⟩)
            go_ret
            refine ⟨ret_u (by rw [hRR.out]), Below.trans ?_ (hbel.mono (by simp <;> omega))⟩
            repeat (first | exact Below.refl _ _ | refine Below.setCell ?_ (by simp) _ | refine Below.alloc ?_ (by simp) _)
        · have E : Rnd.rhe m k = q := by rw [hR.out, if_neg (by omega)]; rfl
          rw [E] at hF hXX hRR
          have HE := Lib.hid E; clear E hR
          have c4 : ((L : Int) == (Q : Int)) = false := by simp; omega
          go_wp2_with (go_at_call 23; refine (pack_any q _ _ hF.out.1 hF.out.2 hXX.out).mono ?_; rintro r w' ⟨rfl, hbel⟩)
          go_ret
          refine ⟨ret_u (by rw [hRR.out]), Below.trans ?_ (hbel.mono (by simp <;> omega))⟩
          repeat (first | exact Below.refl _ _ | refine Below.setCell ?_ (by simp) _ | refine Below.alloc ?_ (by simp) _)

set_option maxRecDepth 100000 in
/-- rounded: the rung of the float next to the number. -/
theorem rounded_any (m : Nat) (e : Int) (w : World) (hm : m < 9223372036854775808) (he : -176 ≤ e) (hX : Rnd.X m e ≤ 2 ^ 176) :
    Calls Tryd.prog 18 #[.agg #[.int .u64 m, .int .i64 e]] w fun r w' => r = .returned (.int .u32 (Rnd.R (Rnd.X m e))) ∧ Below w.heap.size w w' := by
  have HX := Lib.hid hX; clear hX
  have HM := Lib.hid hm; clear hm
  by_cases h1 : 16777216 ≤ m
  · have t1 : decide ((16777216 : Int) ≤ (m : Int)) = true := by simpa using (show (16777216 : Int) ≤ (m : Int) by omega)
    have H1 := Lib.hid h1; clear h1
    go_enter Tryd.func18, Tryd.ntmps18
    go_wp2_with (go_at_call 22; refine (cut_any m e _ HM.out he (.inl H1.out) HX.out).mono ?_; rintro r w' ⟨rfl, hbel⟩)
    go_ret
    exact ⟨rfl, ((Below.refl _ _).alloc (Nat.le_refl _) _).trans (hbel.mono (by simp))⟩
  · have t1 : decide ((16777216 : Int) ≤ (m : Int)) = false := by simpa using (show (m : Int) < (16777216 : Int) by omega)
    have H1 := Lib.hid h1; clear h1
    by_cases h2 : e < -149
    · go_enter Tryd.func18, Tryd.ntmps18
      go_wp2_with (go_at_call 22; refine (cut_any m e _ HM.out he (.inr h2) HX.out).mono ?_; rintro r w' ⟨rfl, hbel⟩)
      go_ret
      exact ⟨rfl, ((Below.refl _ _).alloc (Nat.le_refl _) _).trans (hbel.mono (by simp))⟩
    · go_enter Tryd.func18, Tryd.ntmps18
      go_wp2_with (go_at_call 23; refine (pack_any m e _ (by have := H1.out; omega) (by omega) HX.out).mono ?_; rintro r w' ⟨rfl, hbel⟩)
      go_ret
      exact ⟨rfl, ((Below.refl _ _).alloc (Nat.le_refl _) _).trans (hbel.mono (by simp))⟩
end Go.Proofs.YtjjacehacfbolaaDoor
