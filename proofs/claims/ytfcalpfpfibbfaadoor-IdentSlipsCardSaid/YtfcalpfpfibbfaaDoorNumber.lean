/- checks.Fits, ident.Number and the reference's Number: walked. -/
import Derived.Test.YtfcalpfpfibbfaaDoorRefToken
import Derived.Lib.SmallJoins
namespace Go.Proofs.YtfcalpfpfibbfaaDoor
open Go.RowKit Go.Sort

theorem numOk_iff {s : ByteArray} (h : numOk s = true) : s.size = 15 ∧ byt s 0 = 80 ∧ allB dig (s.extract 1 s.size) (s.extract 1 s.size).size = true := by
  unfold numOk at h
  rw [Bool.and_eq_true, Bool.and_eq_true, beq_iff_eq, beq_iff_eq] at h
  exact ⟨h.1.1, h.1.2, h.2⟩
theorem numOk_digs {s : ByteArray} (h : numOk s = true) : ∀ k, 1 ≤ k → k < 15 → dig (byt s k) = true := fun _ h1 h2 =>
  allB_from (numOk_iff h).1 (numOk_iff h).2.2 h1 h2
theorem numOk_digO {s : ByteArray} (h : numOk s = true) : ∃ d, digO (s.extract 0 13) = some d ∧ d.size = 2 := by
  have hs := (numOk_iff h).1
  have z := ext_size s 0 13 (by omega)
  refine digO_all (by omega) (fun k hk => ?_)
  rw [byt_extract (by omega) (by omega), Nat.zero_add]
  rcases Nat.eq_zero_or_pos k with e | e
  · subst e; rw [(numOk_iff h).2.1]; rfl
  · have := numOk_digs h k e (by omega)
    unfold alnum; rw [this, Bool.or_true]

set_option maxRecDepth 100000 in
set_option maxHeartbeats 1000000 in
theorem fits_any (B : Nat → Addr) (s : ByteArray) (w : World) (hE : Env3 w B) (h : numOk s = true) :
    Calls Tryd.prog 43 #[.string s] w fun e w' => e = .returned (.bool (fits s)) ∧ Below w.heap.size w w' := by
  obtain ⟨d, hd, sd⟩ := numOk_digO h
  have hs := (numOk_iff h).1
  have hf : fits s = (d.toList == (s.extract 13 15).toList) := by unfold fits; rw [hd]
  have z1 := ext_size s 0 13 (by omega)
  have z2 := ext_size s 13 15 (by omega)
  have a3 := digits_any B (s.extract 0 13) w hE (by omega)
  unfold digV at a3
  rw [hd] at a3
  simp only at a3
  have HD := Lib.hid hd; clear hd
  have HE := Lib.hid hE; clear hE
  have HH := Lib.hid h; clear h
  rw [hf]
  clear hf
  generalize hv : (d.toList == (s.extract 13 15).toList) = v
  cases v
  all_goals
    go_enter Tryd.func43, Tryd.ntmps43
    go_wp2_with fail
    refine a3.mono ?_
    rintro e w2 ⟨rfl, hb2⟩
    go_wp2_with fail
    go_ret
    exact ⟨rfl, hb2⟩

theorem numE_bad {s : ByteArray} (h : numOk s = false) : numN s = 0 ∧ numE s = 7 := by
  have : numE s = 7 := by unfold numE; rw [if_pos h]
  exact ⟨by unfold numN; rw [this]; rfl, this⟩
theorem numE_unfit {s : ByteArray} (h : numOk s = true) (h2 : fits s = false) : numN s = 0 ∧ numE s = 8 := by
  have : numE s = 8 := by unfold numE; rw [if_neg (by rw [h]; decide), if_pos h2]
  exact ⟨by unfold numN; rw [this]; rfl, this⟩
theorem numE_nought {s : ByteArray} (h : numOk s = true) (h2 : fits s = true) (h3 : dv s 12 = 0) : numN s = 0 ∧ numE s = 7 := by
  have : numE s = 7 := by unfold numE; rw [if_neg (by rw [h]; decide), if_neg (by rw [h2]; decide), if_pos h3]
  exact ⟨by unfold numN; rw [this]; rfl, this⟩
theorem numE_good {s : ByteArray} (h : numOk s = true) (h2 : fits s = true) (h3 : dv s 12 ≠ 0) : numN s = dv s 12 ∧ numE s = 0 := by
  have : numE s = 0 := by unfold numE; rw [if_neg (by rw [h]; decide), if_neg (by rw [h2]; decide), if_neg h3]
  exact ⟨by unfold numN; rw [this]; rfl, this⟩
theorem atoi_any {s : ByteArray} (h : numOk s = true) (w : World) : Calls Tryd.prog 44 #[.string (s.extract 1 13)] w fun e w' => e = .returned (.tuple #[.int .i64 (dv s 12 : Nat), .nilIface]) ∧ Below w.heap.size w w' := by
  have hs := (numOk_iff h).1
  have z := ext_size s 1 13 (by omega)
  refine (Tryd.strconv_Atoi (s.extract 1 13) (dv s 12 : Nat) (by omega) (atoi_dv hs (numOk_digs h)) w).mono fun e w' ⟨he, t, hw⟩ => ⟨he, ?_⟩
  rw [hw]; exact Joins.below_bytesWorld _ _ _ _ (Nat.le_refl _)

set_option maxRecDepth 100000 in
set_option maxHeartbeats 1000000 in
theorem number_bad (B : Nat → Addr) (s : ByteArray) (w : World) (hE : Env3 w B) (h : numOk s = false) :
    Calls Tryd.prog 25 #[.string s] w fun e w' => e = .returned (.tuple #[.int .i64 0, .iface 105 (.pointer (some (B 0)))]) ∧ Below w.heap.size w w' := by
  have c0 := hE.cell 0 (by decide)
  have HE := Lib.hid hE; clear hE
  cases h1 : ((s.size : Int) != 15) with
  | true =>
    have HH := Lib.hid h; clear h
    go_enter Tryd.func25, Tryd.ntmps25
    go_wp2
    go_quiet (fail)
    go_wp2
    go_ret2
    exact ⟨rfl, below_drewN (Below.refl _ _) _⟩
  | false =>
    have hs : s.size = 15 := by simpa [bne_eq_false_iff_eq] using (show s.size = 15 by have := h1; simp at this; omega)
    have hb : byt s 0 = (s[0]'(by omega)).toNat := byt_eq (by omega)
    cases h2 : (((s[0]'(by omega)).toNat : Int) != 80) with
    | true =>
      have HH := Lib.hid h; clear h
      have HB := Lib.hid hb; clear hb
      go_enter Tryd.func25, Tryd.ntmps25
      go_wp2
      go_quiet (fail)
      go_wp2
      go_ret2
      exact ⟨rfl, below_drewN (Below.refl _ _) _⟩
    | false =>
      have ha : allB dig (s.extract 1 s.size) (s.extract 1 s.size).size = false := by
        unfold numOk at h
        rw [show (s.size == 15) = true by rw [hs]; rfl, show (byt s 0 == 80) = true by rw [hb, beq_iff_eq]; have := h2; simp at this; omega] at h
        simpa using h
      have z := ext_size s 1 s.size (by omega)
      have a1 := fun w => all_digit (s.extract 1 s.size) w (by omega)
      rw [ha] at a1
      rw [hs] at a1 z
      have HH := Lib.hid h; clear h
      have HB := Lib.hid hb; clear hb
      have HA := Lib.hid ha; clear ha
      go_enter Tryd.func25, Tryd.ntmps25
      go_wp2_with fail
      refine (a1 _).mono ?_
      rintro e w' ⟨rfl, rfl⟩
      go_wp2_with fail
      go_quiet (fail)
      go_wp2
      go_ret2
      exact ⟨rfl, below_drewN (Below.refl _ _) _⟩

set_option maxRecDepth 100000 in
set_option maxHeartbeats 1000000 in
theorem number_any (B : Nat → Addr) (s : ByteArray) (w : World) (hE : Env3 w B) :
    Calls Tryd.prog 25 #[.string s] w fun e w' => e = .returned (.tuple #[.int .i64 (numN s), ev B (numE s)]) ∧ Below w.heap.size w w' := by
  cases hk : numOk s with
  | false =>
    rw [(numE_bad hk).1, (numE_bad hk).2]
    exact number_bad B s w hE hk
  | true =>
    have hs := (numOk_iff hk).1
    have hb0 := (numOk_iff hk).2.1
    have ha := (numOk_iff hk).2.2
    have hb : byt s 0 = (s[0]'(by omega)).toNat := byt_eq (by omega)
    have h2 : (((s[0]'(by omega)).toNat : Int) != 80) = false := by rw [← hb, hb0]; rfl
    have z := ext_size s 1 s.size (by omega)
    have a1 := fun w => all_digit (s.extract 1 s.size) w (by omega)
    rw [ha] at a1
    rw [hs] at a1 z
    have a2 := fun w hE => fits_any B s w hE hk
    cases hf : fits s with
    | false =>
      rw [(numE_unfit hk hf).1, (numE_unfit hk hf).2, ev_8]
      rw [hf] at a2
      have HE := Lib.hid hE; clear hE
      have HB := Lib.hid (And.intro hb (And.intro hb0 (And.intro ha hk))); clear hb hb0 ha hk hf
      go_enter Tryd.func25, Tryd.ntmps25
      go_wp2_with fail
      refine (a1 _).mono ?_
      rintro e w' ⟨rfl, rfl⟩
      go_wp2_with fail
      refine (a2 _ HE.out).mono ?_
      rintro e w' ⟨rfl, hbw⟩
      have c3 := (HE.out.below hbw).cell 3 (by decide)
      go_wp2_with fail
      go_quiet (fail)
      go_wp2
      go_ret2
      exact ⟨rfl, below_drewN hbw _⟩
    | true =>
      have a3 := fun w => atoi_any hk w
      have z3 := ext_size s 1 13 (by omega)
      have hv := dv_lt12 hs (numOk_digs hk) (Nat.le_refl 12)
      rw [hf] at a2
      have HE := Lib.hid hE; clear hE
      by_cases h0 : dv s 12 = 0
      · rw [(numE_nought hk hf h0).1, (numE_nought hk hf h0).2, ev_7]
        rw [h0] at a3
        have HB := Lib.hid (And.intro hb (And.intro hb0 (And.intro ha hk))); clear hb hb0 ha hk hf hv h0
        go_enter Tryd.func25, Tryd.ntmps25
        go_wp2_with fail
        refine (a1 _).mono ?_
        rintro e w' ⟨rfl, rfl⟩
        go_wp2_with fail
        refine (a2 _ HE.out).mono ?_
        rintro e w' ⟨rfl, hbw⟩
        go_wp2_with fail
        refine (a3 _).mono ?_
        rintro e w2 ⟨rfl, hbw2⟩
        have hbw3 := hbw.trans (hbw2.mono hbw.size)
        have HBW := Lib.hid hbw3
        have c0 := (HE.out.below hbw3).cell 0 (by decide)
        clear hbw hbw2 hbw3
        go_wp2_with fail
        go_quiet (fail)
        go_wp2
        go_ret2
        exact ⟨rfl, below_drewN HBW.out _⟩
      · rw [(numE_good hk hf h0).1, (numE_good hk hf h0).2, ev_0]
        have HB := Lib.hid (And.intro hb (And.intro hb0 (And.intro ha hk))); clear hb hb0 ha hk hf hv
        have h0' : (((dv s 12 : Nat) : Int) == 0) = false := by simp; omega
        clear h0
        generalize dv s 12 = v at *
        go_enter Tryd.func25, Tryd.ntmps25
        go_wp2_with fail
        refine (a1 _).mono ?_
        rintro e w' ⟨rfl, rfl⟩
        go_wp2_with fail
        refine (a2 _ HE.out).mono ?_
        rintro e w' ⟨rfl, hbw⟩
        go_wp2_with fail
        refine (a3 _).mono ?_
        rintro e w2 ⟨rfl, hbw2⟩
        have HBW := Lib.hid (hbw.trans (hbw2.mono hbw.size))
        clear hbw hbw2
        go_wp2_with fail
        go_ret2
        exact ⟨rfl, HBW.out⟩
end Go.Proofs.YtfcalpfpfibbfaaDoor
