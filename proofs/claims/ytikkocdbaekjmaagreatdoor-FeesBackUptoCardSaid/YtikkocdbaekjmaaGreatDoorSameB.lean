/- remitlaw18.same: walked. -/
import Derived.Test.YtikkocdbaekjmaaGreatDoorFText
import Derived.Laws.StructEq
namespace Go.Proofs.YtikkocdbaekjmaaGreatDoor
open Go.RowKit
def tierEq (x y : Tier) : Bool := x.fr == y.fr && x.fl == y.fl && x.rt == y.rt
def tiersEq (t u : Nat → Tier) : Nat → Bool
  | 0 => true
  | k + 1 => tiersEq t u k && tierEq (t k) (u k)
/-- Are two schedules alike? -/
def sameB (n : Nat) (t : Nat → Tier) (l m : Int) (n' : Nat) (t' : Nat → Tier) (l' m' : Int) : Bool := (l == l') && (m == m') && (n == n') && tiersEq t t' n
theorem tiersEq_false {t u : Nat → Tier} {k : Nat} (h : tierEq (t k) (u k) = false) : ∀ n, k < n → tiersEq t u n = false
  | n + 1, hk => by
    unfold tiersEq
    by_cases e : k = n
    · subst e; rw [h, Bool.and_false]
    · rw [tiersEq_false h n (by omega), Bool.false_and]
theorem neq35 (x y : Tier) (W : World) : (binOp .neq 35 (.agg #[.int .i64 x.fr, .int .i64 x.fl, .int .i64 x.rt]) (.agg #[.int .i64 y.fr, .int .i64 y.fl, .int .i64 y.rt])).run Tryz.prog W = .ok (.bool (!tierEq x y)) W := by
  have u2 := Tryz.underlying2
  have a2 := Tryz.isAgg2
  have z2 := Tryz.sizeOf2
  have u3 := Tryz.underlying3
  have a3 := Tryz.isAgg3
  have z3 := Tryz.sizeOf3
  have hS : Tryz.prog.underlying 35 = some (.struct (Tryz.prog.fieldsOf 35)) := by kernel_rfl
  have hp : Tryz.prog.stoodInHeld 35 = false := by kernel_rfl
  rw [run_neq_struct, show (10000 : Nat) = 9999 + 1 from rfl, run_equalIn_agg W 9999 35 _ _ hS hp]
  simp only [Program.fieldsOf, Tryz.underlying35]
  obtain ⟨x1, x2, x3⟩ := x
  obtain ⟨y1, y2, y3⟩ := y
  unfold tierEq
  go_simp
  by_cases h1 : x1 = y1 <;> by_cases h2 : x2 = y2 <;> by_cases h3 : x3 = y3 <;> simp [h1, h2, h3]
theorem guard35 : Tryz.prog.eqGuardType Tryz.prog.depth 35 = false := by kernel_rfl
set_option maxRecDepth 100000 in
set_option maxHeartbeats 4000000 in
theorem same_any (A A' : Option Addr) (n c n' c' : Nat) (t t' : Nat → Tier) (l m l' m' : Int) (w : World) (hT : Tiers w A n t) (hT' : Tiers w A' n' t') (hn : n ≤ 4611686018427387904) :
    Calls Tryz.prog 10 #[feeV A n c l m, feeV A' n' c' l' m'] w fun e w' => e = .returned (.bool (sameB n t l m n' t' l' m')) ∧ Below w.heap.size w w' := by
  have HT := Lib.hid hT; have HT' := Lib.hid hT'
  have HX := Lib.hid (Boxed.new w A n c l m)
  have hw1 : (w.alloc (.cells #[.slice A n c, .int .i64 l, .int .i64 m] 25)).heap.size = w.heap.size + 1 := by simp
  have HY := Lib.hid (Boxed.new (w.alloc (.cells #[.slice A n c, .int .i64 l, .int .i64 m] 25)) A' n' c' l' m')
  have HXY := Lib.hid (HX.out.step HY.out.below)
  unfold feeV
  clear hT hT'
  go_enter Tryz.func10, Tryz.ntmps10
  go_upto_region 1 with fail
  have hY := HY.out.cells
  rw [hw1] at hY
  obtain ⟨y1, y2, y3⟩ := hY
  obtain ⟨x1, x2, x3⟩ := HXY.out.cells
  have HB := Lib.hid HXY.out.below
  clear HX hw1
  have HY2 := Lib.hid (show ((w.alloc (.cells #[.slice A n c, .int .i64 l, .int .i64 m] 25)).alloc (.cells #[.slice A' n' c', .int .i64 l', .int .i64 m'] 25)).heap.size = w.heap.size + 2 by simp)
  generalize (w.alloc (.cells #[.slice A n c, .int .i64 l, .int .i64 m] 25)).alloc (.cells #[.slice A' n' c', .int .i64 l', .int .i64 m'] 25) = w2 at *
  by_cases h1 : l = l'
  · by_cases h2 : m = m'
    · by_cases h3 : n = n'
      · subst h1; subst h2; subst h3
        have q1 : (l == l) = true := beq_self_eq_true _
        have q2 : (m == m) = true := beq_self_eq_true _
        have q3 : ((n : Int) == (n : Int)) = true := beq_self_eq_true _
        have HS := Lib.hid (show sameB n t l m n t' l m = tiersEq t t' n by unfold sameB; simp)
        have HK := Lib.hid (show ∀ k, k < n → tierEq (t k) (t' k) = false → tiersEq t t' n = false from fun k hk h => tiersEq_false h n hk)
        go_wp2_with fail
        go_loopw [30] (fun vi wr => ∃ k : Nat, vi = .int .i64 k ∧ k ≤ n ∧ Hid (tiersEq t t' k = true) ∧ Hid (∃ q, wr = w2.drewN q)) (fun vi _ => n - (intOf vi).toNat)
        case atStart => exact ⟨0, rfl, Nat.zero_le _, Lib.hid rfl, Lib.hid ⟨0, rfl⟩⟩
        case round =>
          obtain ⟨k, rfl, hk, hgo, hq⟩ := hrel
          obtain ⟨q, rfl⟩ := hq.out
          rcases Nat.lt_or_ge k n with h | h
          · have hkI : (k : Int) < n := by omega
            rcases HT.out with h0 | ⟨b, o, rfl, hb, hc⟩
            · omega
            rcases HT'.out with h0 | ⟨b', o', rfl, hb', hc'⟩
            · omega
            obtain ⟨c0, c1, c2⟩ := hc k h
            obtain ⟨d0, d1, d2⟩ := hc' k h
            have c0 := (HB.out.cell (p := ⟨b, o + k * 3, none⟩) hb).trans c0
            have c1 := (HB.out.cell (p := ⟨b, o + k * 3 + 1, none⟩) hb).trans c1
            have c2 := (HB.out.cell (p := ⟨b, o + k * 3 + 2, none⟩) hb).trans c2
            have d0 := (HB.out.cell (p := ⟨b', o' + k * 3, none⟩) hb').trans d0
            have d1 := (HB.out.cell (p := ⟨b', o' + k * 3 + 1, none⟩) hb').trans d1
            have d2 := (HB.out.cell (p := ⟨b', o' + k * 3 + 2, none⟩) hb').trans d2
            clear hc hc'
            have HE := Lib.hid (show tiersEq t t' (k + 1) = (tiersEq t t' k && tierEq (t k) (t' k)) from rfl)
            have HF := Lib.hid (HK.out k h)
            generalize t k = x at *
            generalize t' k = y at *
            have hne := fun W => neq35 x y W
            have hg35 := guard35
            have hlt : b < w2.heap.size := Nat.lt_of_lt_of_le hb HB.out.size
            generalize hx1 : x.fr = x1' at *
            generalize hx2 : x.fl = x2' at *
            generalize hx3 : x.rt = x3' at *
            generalize hy1 : y.fr = y1' at *
            generalize hy2 : y.fl = y2' at *
            generalize hy3 : y.rt = y3' at *
            clear hx1 hx2 hx3 hy1 hy2 hy3
            cases hv : tierEq x y with
            | true =>
              rw [hv] at hne
              have HG := Lib.hid (show tiersEq t t' (k + 1) = true by rw [HE.out, hgo.out, hv]; rfl)
              clear hv HE HF
              go_wp2_with fail
              go_quiet (fail)
              go_wp2
              go_roundw
              case rel => exact ⟨k + 1, by go_num, h, HG, Lib.hid ⟨_, rfl⟩⟩
              case measure => simp [intOf]; omega
            | false =>
              rw [hv] at hne
              have HG := Lib.hid (HF.out hv)
              clear hv HE HF
              go_wp2_with fail
              go_quiet (fail)
              go_wp2
              go_ret
              exact ⟨by rw [HS.out, HG.out]; rfl, below_drewN (below_drewN HB.out q) nq⟩
          · obtain rfl : n = k := by omega
            go_wp2
            go_ret
            exact ⟨by rw [HS.out, hgo.out]; rfl, below_drewN HB.out q⟩
      · have HS := Lib.hid (show sameB n t l m n' t' l' m' = false by unfold sameB; simp [h3])
        subst h1; subst h2
        have q1 : (l == l) = true := beq_self_eq_true _
        have q2 : (m == m) = true := beq_self_eq_true _
        have q3 : ((n : Int) == (n' : Int)) = false := beq_eq_false_iff_ne.2 (by omega)
        have q4 : ((n : Int) != (n' : Int)) = true := by unfold bne; rw [q3]; rfl
        go_wp2
        go_ret
        exact ⟨by rw [HS.out]; rfl, HB.out⟩
    · have HS := Lib.hid (show sameB n t l m n' t' l' m' = false by unfold sameB; simp [h2])
      subst h1
      have q1 : (l == l) = true := beq_self_eq_true _
      have q2 : (m == m') = false := beq_eq_false_iff_ne.2 h2
      have q4 : (m != m') = true := by unfold bne; rw [q2]; rfl
      go_wp2
      go_ret
      exact ⟨by rw [HS.out]; rfl, HB.out⟩
  · have HS := Lib.hid (show sameB n t l m n' t' l' m' = false by unfold sameB; simp [h1])
    have q1 : (l == l') = false := beq_eq_false_iff_ne.2 h1
    have q4 : (l != l') = true := by unfold bne; rw [q1]; rfl
    go_wp2
    go_ret
    exact ⟨by rw [HS.out]; rfl, HB.out⟩
end Go.Proofs.YtikkocdbaekjmaaGreatDoor
