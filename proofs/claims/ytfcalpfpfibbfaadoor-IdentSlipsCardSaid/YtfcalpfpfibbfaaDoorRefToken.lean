/- The reference's Token: walked. -/
import Derived.Test.YtfcalpfpfibbfaaDoorToken
import Derived.Test.YtfcalpfpfibbfaaDoorBackW
namespace Go.Proofs.YtfcalpfpfibbfaaDoor
open Go.RowKit Go.Sort

def lenOf : Value → Nat
  | .string s => s.size
  | _ => 0

set_option maxRecDepth 100000 in
set_option maxHeartbeats 1000000 in
theorem refToken_any (n : Int) (w : World) :
    Calls Tryd.prog 24 #[.int .i64 n] w fun e w' => e = .returned (.tuple #[.string (tokS n), .int .i64 (tokE n)]) ∧ Below w.heap.size w w' := by
  by_cases h1 : n < 1
  · have hk : tokOk n = false := by unfold tokOk; rw [decide_eq_false (by omega)]; rfl
    rw [(tokS_bad hk).1, (tokS_bad hk).2]
    clear hk
    go_enter Tryd.func24, Tryd.ntmps24
    go_wp2
    go_ret2
    exact ⟨rfl, Below.refl _ _⟩
  · by_cases h2 : 999999999999 < n
    · have hk : tokOk n = false := by unfold tokOk; rw [decide_eq_false (show ¬ n ≤ 999999999999 by omega), Bool.and_false]
      rw [(tokS_bad hk).1, (tokS_bad hk).2]
      clear hk
      go_enter Tryd.func24, Tryd.ntmps24
      go_wp2
      go_ret2
      exact ⟨rfl, Below.refl _ _⟩
    · have hk : tokOk n = true := by unfold tokOk; rw [decide_eq_true (by omega), decide_eq_true (by omega)]; rfl
      obtain ⟨m, rfl⟩ : ∃ m : Nat, n = m := ⟨n.toNat, by omega⟩
      obtain ⟨d, hd, sd⟩ := tok_dig m
      obtain ⟨e1, e2⟩ := tokS_good hk (d := d) hd
      rw [e1, e2]
      simp only [Int.toNat_natCast]
      have hm : (m : Int) < 1000000000000 := by omega
      have a3 := fun w => refDigits_any (tok m) w (by rw [tok_size]; omega)
      unfold refDigV at a3
      rw [hd] at a3
      simp only at a3
      have HA := Lib.hid a3; clear a3
      have HD := Lib.hid hd; clear hd e1 e2 hk
      have HV := Lib.hid (show ∀ x, x = tok m ++ d → Value.tuple #[.string x, .int .i64 0] = .tuple #[.string (tok m ++ d), .int .i64 0] from fun x h => by rw [h])
      generalize Value.tuple #[.string (tok m ++ d), .int .i64 ((0 : Nat) : Int)] = V at *
      go_enter Tryd.func24, Tryd.ntmps24
      go_wp2
      go_loopw [0, 4] (fun n s wr => ∃ k q : Nat, ∃ t : ByteArray, k ≤ 12 ∧ n = .int .i64 q ∧ s = .string t ∧ t.size = k ∧ (q : Int) < 1000000000000 ∧ Hid (q = m / 10 ^ k) ∧ Hid (t = low m k) ∧ Hid (Below w.heap.size w wr)) (fun _ s _ => 12 - lenOf s)
      case atStart => exact ⟨0, m, ⟨#[]⟩, by omega, rfl, rfl, rfl, by omega, show m = m / 10 ^ 0 by simp, rfl, Below.refl _ _⟩
      case round =>
        obtain ⟨k, q, t, hk, rfl, rfl, ht, hq, hqe, hte, hb⟩ := hrel
        have hsz := hb.out.size
        rcases Nat.lt_or_ge k 12 with hlt | hge
        · have F := Lib.hid (show strOfNums [48 + ((q % 10 : Nat) : Int)] ++ t = low m (k + 1) by rw [hqe.out, hte.out]; rfl)
          have F2 := Lib.hid (show q / 10 = m / 10 ^ (k + 1) by rw [hqe.out, Nat.pow_succ, Nat.div_div_eq_div_mul])
          subst ht
          have hlt2 : (t.size : Int) < 12 := by omega
          have q0 : (0 : Int) ≤ ((q % 10 : Nat) : Int) := by omega
          have q9 : ((q % 10 : Nat) : Int) ≤ 9 := by omega
          have hmod : (q : Int).tmod 10 = ((q % 10 : Nat) : Int) := rfl
          have hdiv : (q : Int).tdiv 10 = ((q / 10 : Nat) : Int) := rfl
          have hq1 : ((q / 10 : Nat) : Int) < 1000000000000 := by omega
          generalize q % 10 = r at *
          generalize q / 10 = q1 at *
          have hc1 := fun w => conv1 w (48 + (r : Int))
          have ho : (strOfNums [48 + (r : Int)]).size = 1 := rfl
          generalize strOfNums [48 + (r : Int)] = o at *
          clear hlt hk
          go_wp2
          go_roundw
          case rel => exact ⟨t.size + 1, q1, _, by omega, rfl, rfl, by rw [ByteArray.size_append, ho]; omega, hq1, F2, F, (hb.out.alloc hsz _)⟩
          case measure => simp [lenOf, ByteArray.size_append, ho]; omega
        · obtain rfl : k = 12 := by omega
          have ht2 := Lib.hid (show pee ++ t = tok m by rw [hte.out, low_d12]; rfl)
          have hpee : ({ data := #[80] } : ByteArray) = pee := rfl
          have hA := fun w => HA.out w
          rw [← ht2.out, ← hpee] at hA
          have F := Lib.hid (HV.out (({ data := #[80] } : ByteArray) ++ t ++ d) (by rw [← ht2.out]; rfl))
          have zt : (({ data := #[80] } : ByteArray) ++ t).size = 13 := by rw [ByteArray.size_append, ht]; rfl
          clear hge hk hpee
          go_wp2_with fail
          refine (hA _).mono ?_
          rintro e w2 ⟨rfl, hb2⟩
          have HB2 := Lib.hid (hb.out.trans (hb2.mono hb.out.size)); clear hb2
          go_wp2_with fail
          go_ret2
          exact ⟨congrArg Ending.returned F.out, HB2.out⟩
end Go.Proofs.YtfcalpfpfibbfaaDoor
