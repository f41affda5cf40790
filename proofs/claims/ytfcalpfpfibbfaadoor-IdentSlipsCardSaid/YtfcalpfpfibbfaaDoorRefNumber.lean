/- The reference's Number: walked. -/
import Derived.Test.YtfcalpfpfibbfaaDoorNumber
namespace Go.Proofs.YtfcalpfpfibbfaaDoor
open Go.RowKit Go.Sort

set_option maxRecDepth 100000 in
set_option maxHeartbeats 1000000 in
theorem refNumber_any (s : ByteArray) (w : World) :
    Calls Tryd.prog 26 #[.string s] w fun e w' => e = .returned (.tuple #[.int .i64 (numN s), .int .i64 (numE s)]) ∧ Below w.heap.size w w' := by
  cases h1 : ((s.size : Int) != 15) with
  | true =>
    have hk : numOk s = false := by
      unfold numOk
      rw [show (s.size == 15) = false by rw [beq_eq_false_iff_ne]; have := h1; simp at this; omega]; rfl
    rw [(numE_bad hk).1, (numE_bad hk).2]
    clear hk
    go_enter Tryd.func26, Tryd.ntmps26
    go_wp2
    go_ret2
    exact ⟨rfl, Below.refl _ _⟩
  | false =>
    have hs : s.size = 15 := by have := h1; simp at this; omega
    have hb : byt s 0 = (s[0]'(by omega)).toNat := byt_eq (by omega)
    cases h2 : (((s[0]'(by omega)).toNat : Int) != 80) with
    | true =>
      have hk : numOk s = false := by
        unfold numOk
        rw [show (byt s 0 == 80) = false by rw [hb, beq_eq_false_iff_ne]; have := h2; simp at this; omega, Bool.and_false]; rfl
      rw [(numE_bad hk).1, (numE_bad hk).2]
      clear hk hb
      go_enter Tryd.func26, Tryd.ntmps26
      go_wp2
      go_ret2
      exact ⟨rfl, Below.refl _ _⟩
    | false =>
      have h80 : byt s 0 = 80 := by rw [hb]; have := h2; simp at this; omega
      have z := ext_size s 1 s.size (by omega)
      have a1 := fun w => refAll_dig (s.extract 1 s.size) w (by omega)
      cases ha : allB dig (s.extract 1 s.size) (s.extract 1 s.size).size with
      | false =>
        have hk : numOk s = false := by unfold numOk; rw [ha, Bool.and_false]
        rw [(numE_bad hk).1, (numE_bad hk).2]
        rw [ha] at a1
        rw [hs] at a1 z
        clear hk hb h80 ha
        go_enter Tryd.func26, Tryd.ntmps26
        go_wp2_with fail
        refine (a1 _).mono ?_
        rintro e w' ⟨rfl, rfl⟩
        go_wp2_with fail
        go_ret2
        exact ⟨rfl, Below.refl _ _⟩
      | true =>
        have hk : numOk s = true := by unfold numOk; rw [ha, hs, h80]; rfl
        obtain ⟨d, hd, sd⟩ := numOk_digO hk
        have z1 := ext_size s 0 13 (by omega)
        have z2 := ext_size s 13 15 (by omega)
        have hf : fits s = (d.toList == (s.extract 13 15).toList) := by unfold fits; rw [hd]
        have a3 := fun w => refDigits_any (s.extract 0 13) w (by omega)
        unfold refDigV at a3
        rw [hd] at a3
        simp only at a3
        rw [ha] at a1
        rw [hs] at a1 z
        cases h3 : (d.toList == (s.extract 13 15).toList) with
        | false =>
          rw [h3] at hf
          rw [(numE_unfit hk hf).1, (numE_unfit hk hf).2]
          have HB := Lib.hid (And.intro hb (And.intro hd (And.intro ha hk))); clear hb h80 ha hk hf hd
          go_enter Tryd.func26, Tryd.ntmps26
          go_wp2_with fail
          refine (a1 _).mono ?_
          rintro e w' ⟨rfl, rfl⟩
          go_wp2_with fail
          refine (a3 _).mono ?_
          rintro e w' ⟨rfl, hbw⟩
          have HBW := Lib.hid hbw; clear hbw
          go_wp2_with fail
          go_ret2
          exact ⟨rfl, HBW.out⟩
        | true =>
          rw [h3] at hf
          have HD := Lib.hid (show ∀ k, k < 12 → 48 ≤ byt s (k + 1) ∧ byt s (k + 1) ≤ 57 from fun k hk2 => dig_iff (numOk_digs hk (k + 1) (by omega) (by omega)))
          have HL := Lib.hid (show ∀ k, k ≤ 12 → dv s k < 1000000000000 from fun k hk2 => dv_lt12 hs (numOk_digs hk) hk2)
          have HN := Lib.hid (show (dv s 12 = 0 → Value.tuple #[.int .i64 0, .int .i64 7] = .tuple #[.int .i64 (numN s), .int .i64 (numE s)]) ∧ (dv s 12 ≠ 0 → Value.tuple #[.int .i64 (dv s 12 : Nat), .int .i64 0] = .tuple #[.int .i64 (numN s), .int .i64 (numE s)]) from
            ⟨fun h => by rw [(numE_nought hk hf h).1, (numE_nought hk hf h).2]; rfl, fun h => by rw [(numE_good hk hf h).1, (numE_good hk hf h).2]; rfl⟩)
          generalize Value.tuple #[.int .i64 ((numN s : Nat) : Int), .int .i64 ((numE s : Nat) : Int)] = V at *
          have HB := Lib.hid (And.intro hb (And.intro hd (And.intro ha hk))); clear hb h80 ha hk hf hd
          go_enter Tryd.func26, Tryd.ntmps26
          go_wp2_with fail
          refine (a1 _).mono ?_
          rintro e w' ⟨rfl, rfl⟩
          go_wp2_with fail
          refine (a3 _).mono ?_
          rintro e w' ⟨rfl, hbw⟩
          have HBW := Lib.hid hbw; clear hbw
          go_wp2_with fail
          go_loop [6, 7] (fun n i => ∃ j v : Nat, 1 ≤ j ∧ j ≤ 13 ∧ i = .int .i64 j ∧ n = .int .i64 v ∧ Hid (v = dv s (j - 1))) (fun _ i => 13 - (intOf i).toNat)
          case atStart => exact ⟨1, 0, by omega, by omega, rfl, rfl, rfl⟩
          case round =>
            obtain ⟨j, v, hj1, hj, rfl, rfl, hv⟩ := hrel
            have hvl : (v : Int) < 1000000000000 := by have := HL.out (j - 1) (by omega); rw [hv.out]; omega
            rcases Nat.lt_or_ge j 13 with hlt | hge
            · have hjs : j < s.size := by omega
              have hbk : byt s j = (s[j]'hjs).toNat := byt_eq hjs
              have F := Lib.hid (show 10 * v + (byt s j - 48) = dv s (j + 1 - 1) by
                obtain ⟨k, rfl⟩ : ∃ k, j = k + 1 := ⟨j - 1, by omega⟩
                rw [hv.out]; rfl)
              obtain ⟨q1, q2⟩ := HD.out (j - 1) (by omega)
              rw [show j - 1 + 1 = j by omega] at q1 q2
              rw [hbk] at q1 q2 F
              have HBK := Lib.hid hbk; clear hbk
              have q1' : (48 : Int) ≤ ((s[j]'hjs).toNat : Int) := by omega
              have q2' : ((s[j]'hjs).toNat : Int) ≤ 57 := by omega
              have hlt' : (j : Int) < 13 := by omega
              have hw1 : IntKind.i64.wrap (10 * (v : Int)) = ((10 * v : Nat) : Int) := by rw [IntKind.wrap_i64]; omega
              have hw2 : IntKind.i64.wrap (((10 * v : Nat) : Int) + (((s[j]'hjs).toNat : Int) - 48)) = ((10 * v + ((s[j]'hjs).toNat - 48) : Nat) : Int) := by rw [IntKind.wrap_i64]; omega
              clear q1 q2 hlt hj hvl
              generalize 10 * v = v10 at *
              go_wp2
              go_round
              case rel => exact ⟨j + 1, _, by omega, by omega, by go_num, by go_num, F⟩
              case measure => simp [intOf]; omega
            · obtain rfl : j = 13 := by omega
              clear hge hj1 hj
              rcases Nat.eq_zero_or_pos v with e | e
              · subst e
                have F := Lib.hid (HN.out.1 hv.out.symm)
                go_wp2
                go_ret2
                exact ⟨congrArg Ending.returned F.out, HBW.out⟩
              · have F := Lib.hid (HN.out.2 (by rw [← hv.out]; omega))
                rw [← hv.out] at F
                have e' : ((v : Int) == 0) = false := by simp; omega
                clear e
                go_wp2
                go_ret2
                exact ⟨congrArg Ending.returned F.out, HBW.out⟩
end Go.Proofs.YtfcalpfpfibbfaaDoor
