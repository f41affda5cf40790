/- remitmem.SpareInts: walked. -/
import Derived.Test.YthkobjbemmllfaaGreatDoorNum
import Derived.BigQuiet
import Derived.Deep.QuietTactic
import Derived.Deep.DeepCutAuto
import Derived.WalkKit
import Derived.OwnWalk
import Derived.Deep.AppendLies
import Derived.Maps.AppendAt
namespace Go.Proofs.YthkobjbemmllfaaGreatDoor
open Go.RowKit
/-- The mark's inner number. -/
def mark0 (i j : Int) : Int := IntKind.u64.wrap (IntKind.u64.wrap (IntKind.u64.wrap (wrap64 (i + 1)) * 11400714819323198485) + IntKind.u64.wrap (IntKind.u64.wrap (wrap64 (j + 1)) * 13787848793156543929))
def markI (i j : Int) : Int := wrap64 (wrap64 (IntKind.u64.wrap (bits BinOp.xor IntKind.u64 (mark0 i j) (mark0 i j / 536870912) * 10723151780598845931) / 8589934592) + 1)
set_option maxRecDepth 100000 in
theorem mark_any (i j : Int) (w : World) : Calls Tryz.prog 17 #[.int .i64 i, .int .i64 j] w fun e w' => e = .returned (.int .i64 (markI i j)) ∧ w' = w := by
  unfold markI mark0
  go_enter Tryz.func17, Tryz.ntmps17
  go_wp2
  go_ret
  exact ⟨rfl, rfl⟩
end Go.Proofs.YthkobjbemmllfaaGreatDoor
namespace Go.Proofs.YthkobjbemmllfaaGreatDoor
open Go.RowKit
/-- A list of numbers. -/
def Vals (w : World) (A : Option Addr) (n : Nat) (f : Nat → Int) : Prop := n = 0 ∨ ∃ b o, A = some ⟨b, o, none⟩ ∧ b < w.heap.size ∧ ∀ i, i < n → w.cell? ⟨b, o + i, none⟩ = some (.int .i64 (f i))
set_option maxRecDepth 100000 in
set_option maxHeartbeats 4000000 in
theorem same_yes (A A' : Option Addr) (n c c' : Nat) (f : Nat → Int) (w : World) (hT : Vals w A n f) (hT' : Vals w A' n f) (hn : n ≤ 4611686018427387904) :
    Calls Tryz.prog 10 #[.slice A n c, .slice A' n c'] w fun e w' => e = .returned (.bool true) ∧ ∃ q, w' = w.drewN q := by
  have HT := Lib.hid hT; have HT' := Lib.hid hT'
  have q3 : ((n : Int) == (n : Int)) = true := beq_self_eq_true _
  clear hT hT'
  go_enter Tryz.func10, Tryz.ntmps10
  go_wp2_with fail
  go_loopw [13] (fun vi wr => ∃ k : Nat, vi = .int .i64 k ∧ k ≤ n ∧ Hid (∃ q, wr = w.drewN q)) (fun vi _ => n - (intOf vi).toNat)
  case atStart => exact ⟨0, rfl, Nat.zero_le _, Lib.hid ⟨0, rfl⟩⟩
  case round =>
    obtain ⟨k, rfl, hk, hq⟩ := hrel
    obtain ⟨q, rfl⟩ := hq.out
    rcases Nat.lt_or_ge k n with h | h
    · have hkI : (k : Int) < n := by omega
      rcases HT.out with h0 | ⟨b, o, rfl, hb, hc⟩
      · omega
      rcases HT'.out with h0 | ⟨b', o', rfl, hb', hc'⟩
      · omega
      have c0 := hc k h
      have d0 := hc' k h
      clear hc hc'
      generalize f k = x at *
      have e0 : (x == x) = true := beq_self_eq_true _
      go_wp2_with fail
      go_quiet (fail)
      go_wp2
      go_roundw
      case rel => exact ⟨k + 1, by go_num, h, Lib.hid ⟨_, rfl⟩⟩
      case measure => simp [intOf]; omega
    · have hkI : ¬ (k : Int) < n := by omega
      go_wp2
      go_ret
      exact ⟨rfl, _, rfl⟩
set_option maxRecDepth 100000 in
set_option maxHeartbeats 4000000 in
theorem kept_yes (A A' : Option Addr) (n N c c' : Nat) (f g : Nat → Int) (w : World) (hN : N = n + 80) (hT : Vals w A N g) (hT' : Vals w A' n f) (hn : n ≤ 2305843009213693952) (hf : ∀ i, i < n → g i = f i) (hg : ∀ j : Nat, j < 80 → g (n + j) = markI 7 j) :
    Calls Tryz.prog 8 #[.slice A N c, .slice A' n c'] w fun e w' => e = .returned (.bool true) ∧ ∃ q, w' = w.drewN q := by
  have HT := Lib.hid hT; have HT' := Lib.hid hT'; have HF := Lib.hid hf; have HG := Lib.hid hg
  have q3 : ((N : Int) == (n : Int) + 80) = true := beq_iff_eq.2 (by omega)
  have HN := Lib.hid hN
  clear hT hT' hf hg hN
  go_enter Tryz.func8, Tryz.ntmps8
  go_wp2_with fail
  go_loopw [15] (fun vi wr => ∃ k : Nat, vi = .int .i64 k ∧ k ≤ n ∧ Hid (∃ q, wr = w.drewN q)) (fun vi _ => n - (intOf vi).toNat)
  case atStart => exact ⟨0, rfl, Nat.zero_le _, Lib.hid ⟨0, rfl⟩⟩
  case round =>
    obtain ⟨k, rfl, hk, hq⟩ := hrel
    obtain ⟨q, rfl⟩ := hq.out
    rcases Nat.lt_or_ge k n with h | h
    · have hkI : (k : Int) < n := by omega
      have hkJ : (k : Int) < N := by have := HN.out; omega
      rcases HT.out with h0 | ⟨b, o, rfl, hb, hc⟩
      · have := HN.out; omega
      rcases HT'.out with h0 | ⟨b', o', rfl, hb', hc'⟩
      · omega
      have c0 := hc k (by have := HN.out; omega)
      have d0 := hc' k h
      rw [HF.out k h] at c0
      clear hc hc'
      generalize f k = x at *
      have e0 : (x == x) = true := beq_self_eq_true _
      go_wp2_with fail
      go_quiet (fail)
      go_wp2
      go_roundw
      case rel => exact ⟨k + 1, by go_num, h, Lib.hid ⟨_, rfl⟩⟩
      case measure => simp [intOf]; omega
    · have hkI : ¬ (k : Int) < n := by omega
      have hkn : k = n := by omega
      go_wp2_with fail
      go_loopw [6] (fun vi wr => ∃ j : Nat, vi = .int .i64 j ∧ j ≤ 80 ∧ Hid (∃ q, wr = w.drewN q)) (fun vi _ => 80 - (intOf vi).toNat)
      case atStart => exact ⟨0, rfl, Nat.zero_le _, Lib.hid ⟨_, rfl⟩⟩
      case round =>
        obtain ⟨j, rfl, hj, hq2⟩ := hrel
        obtain ⟨q2, hq3⟩ := hq2.out
        rcases Nat.lt_or_ge j 80 with h2 | h2
        · have hj1 : decide ((j : Int) < 80) = true := decide_eq_true (by omega)
          obtain ⟨m, hm'⟩ : ∃ m, m = n + j := ⟨_, rfl⟩
          have hw : IntKind.i64.wrap ((n : Int) + j) = (m : Int) := by rw [IntKind.wrap_i64]; omega
          have hjI : (m : Int) < N := by have := HN.out; omega
          have hjN : m < N := by have := HN.out; omega
          rcases HT.out with h0 | ⟨b, o, rfl, hb, hc⟩
          · have := HN.out; omega
          have c0 := hc m hjN
          rw [hm', HG.out j h2, ← hm'] at c0
          clear hm'
          have hm : ∀ w1, Calls Tryz.prog 17 #[.int .i64 7, .int .i64 j] w1 fun e w' => e = .returned (.int .i64 (markI 7 j)) ∧ w' = w1 := fun w1 => mark_any 7 j w1
          have c1 : wr.cell? ⟨b, o + m, none⟩ = some (.int .i64 (markI 7 j)) := by rw [hq3]; exact c0
          have HQ := Lib.hid hq3
          clear hc c0 hq3
          generalize markI 7 j = x at *
          have e0 : (x == x) = true := beq_self_eq_true _
          go_wp2_with fail
          go_quiet ((first | (go_at_call 17; exact Calls.quiet_of_same (hm _))))
          go_wp2
          go_roundw
          case rel => exact ⟨j + 1, by go_num, h2, Lib.hid ⟨_, by rw [HQ.out]; exact World.drewN_drewN _ _ _⟩⟩
          case measure => simp [intOf]; omega
        · have hj1 : decide ((j : Int) < 80) = false := decide_eq_false (by omega)
          have HQ := Lib.hid hq3
          clear hq3
          go_wp2
          go_ret
          exact ⟨rfl, _, HQ.out⟩
end Go.Proofs.YthkobjbemmllfaaGreatDoor
namespace Go.Proofs.YthkobjbemmllfaaGreatDoor
open Go.RowKit
theorem infoI3 : (Tryz.prog.info? 3).map (fun i => (i.zero, i.size, i.bytes)) = some (some (.int .i64 0), 1, 8) := by kernel_rfl

/-- Numbers as cells. -/
def nls (ss : Nat → Int) : Nat → List Value
  | 0 => []
  | k + 1 => nls ss k ++ [.int .i64 (ss k)]
theorem nls_length (ss : Nat → Int) : ∀ n, (nls ss n).length = n
  | 0 => rfl
  | n + 1 => by unfold nls; rw [List.length_append, nls_length ss n]; rfl
theorem nls_at (ss : Nat → Int) : ∀ n i, i < n → (nls ss n)[i]? = some (.int .i64 (ss i))
  | n + 1, i, h => by
    unfold nls
    by_cases e : i < n
    · rw [List.getElem?_append_left (by rw [nls_length]; exact e)]; exact nls_at ss n i e
    · obtain rfl : i = n := by omega
      rw [List.getElem?_append_right (by rw [nls_length]; exact Nat.le_refl _), nls_length, Nat.sub_self]; rfl
theorem nls_one (ss : Nat → Int) : ∀ n, ∀ u ∈ nls ss n, u.oneCell' = true
  | 0, u, h => by cases h
  | n + 1, u, h => by
    unfold nls at h
    rcases List.mem_append.1 h with h | h
    · exact nls_one ss n u h
    · obtain rfl := List.mem_singleton.1 h; rfl
/-- The list b with the marks behind it. -/
def spare (ss : Nat → Int) (n : Nat) (i : Nat) : Int := if i < n then ss i else markI 7 ((i - n : Nat) : Int)
theorem nls_spare (ss : Nat → Int) (n : Nat) : ∀ k, k ≤ n → nls (spare ss n) k = nls ss k
  | 0, _ => rfl
  | k + 1, h => by
    unfold nls
    rw [nls_spare ss n k (by omega)]
    unfold spare; rw [if_pos (by omega)]

/-- A list of numbers, beside what is said of nil. -/
def Tv (w : World) (A : Option Addr) (n c : Nat) (ss : Nat → Int) : Prop := (A = none → n = 0 ∧ c = 0) ∧ Vals w A n ss

set_option maxRecDepth 100000 in
set_option maxHeartbeats 1000000 in
theorem spare_any (A : Option Addr) (n c : Nat) (ss : Nat → Int) (w : World) (hA : Tv w A n c ss) (hn : n ≤ 4000000000) :
    Calls Tryz.prog 6 #[.slice A n c] w fun e w' => e = .returned (.tuple #[.slice (some ⟨w.heap.size, 0, none⟩) n (n + 80), .slice (some ⟨w.heap.size, 0, none⟩) (n + 80) (n + 80)]) ∧
      w'.ownsRow w.heap.size 3 1 (.slice (some ⟨w.heap.size, 0, none⟩) (n + 80) (n + 80)) (n + 80) (nls (spare ss n) (n + 80)) ∧ Below w.heap.size w w' := by
  obtain ⟨i0, hi0, hz0, hz1, hz2⟩ := info_parts infoI3
  have HA := Lib.hid hA; clear hA
  have H0 := Lib.hid hi0; have HZ0 := Lib.hid hz0; have HZ1 := Lib.hid hz1; have HZ2 := Lib.hid hz2
  clear hi0 hz0 hz1 hz2
  go_enter Tryz.func6, Tryz.ntmps6
  go_wp2_with (refine wpList_make_own _ rfl _ _ 22 rfl w.heap.size 3 i0 (.int .i64 0) 1 Tryz.underlying22 H0.out HZ0.out HZ1.out .i64 .i64 ((n : Int) + 80) (n + 80) rfl rfl (by omega) (by rw [HZ2.out]; omega) (by unfold maxLen; omega) (Nat.le_refl _) ?_)
  intro w1 ho hg
  have hb1 : Below w.heap.size w w1 := ⟨hg.os, hg.tape, hg.output, hg.size, fun k hk => hg.block k hk (by simp)⟩
  have hnews : ∀ ad, A = some ad → ∀ j u, (nls ss n)[j]? = some u → w1.cell? (ad.add j) = some u := by
    intro ad had j u hj
    have hjn : j < n := by
      have := (List.getElem?_eq_some_iff.1 hj).1
      rwa [nls_length] at this
    rcases HA.out.2 with h0 | ⟨b, o, hab, hb, hc⟩
    · omega
    rw [had] at hab
    obtain rfl := Option.some.inj hab
    have e0 : (⟨b, o, none⟩ : Addr).add j = ⟨b, o + j, none⟩ := by unfold Addr.add; split <;> simp_all
    rw [e0, hb1.cell (by exact hb), hc j hjn]
    rw [nls_at ss n j hjn] at hj
    exact hj
  have HO := Lib.hid ho; have HG := Lib.hid hg; have HN := Lib.hid hnews; have HB1 := Lib.hid hb1; clear ho hg hnews hb1
  go_wp2_with (first | (at_builtin; refine wpList_append_fits_any _ rfl _ _ 22 rfl w.heap.size 3 i0 1 Tryz.underlying22 H0.out HZ1.out w.heap.size 0 (n + 80) [] rfl HO.out A n c (nls ss n) rfl ?c1 HA.out.1 HN.out (nls_one ss n) ?c2 ?_))
  case c1 => rw [nls_length, Nat.mul_one]
  case c2 => omega
  intro w2 ho2 hg2
  have hl0 : w.heap.size ≤ w.heap.size := Nat.le_refl _
  have HB2 := Lib.hid (HB1.out.trans ((Below.refl w.heap.size w1).grown hg2 HB1.out.size (fun k hk => by rw [← Option.some.inj hk]; exact Nat.le_refl _)))
  have ho3 : w2.ownsRow w.heap.size 3 1 (.slice (some ⟨w.heap.size, 0, none⟩) (n + 0) (n + 80)) (n + 0) (nls (spare ss n) (n + 0)) := by
    rw [Nat.add_zero, nls_spare ss n n (Nat.le_refl _)]
    simpa using ho2
  have HO3 := Lib.hid ho3; clear ho2 hg2 ho3
  go_wp2_with fail
  go_loopw [4, 5] (fun s i wr => ∃ k : Nat, s = .slice (some ⟨w.heap.size, 0, none⟩) (n + k) (n + 80) ∧ i = .int .i64 k ∧ k ≤ 80 ∧ Hid (wr.ownsRow w.heap.size 3 1 (.slice (some ⟨w.heap.size, 0, none⟩) (n + k) (n + 80)) (n + k) (nls (spare ss n) (n + k)) ∧ Below w.heap.size w wr)) (fun _ i _ => 80 - (intOf i).toNat)
  case atStart => first | exact ⟨0, rfl, rfl, by omega, HO3.out, HB2.out⟩ | exact ⟨0, by simp, rfl, by omega, HO3.out, HB2.out⟩
  case round =>
    obtain ⟨k, rfl, rfl, hk, hh⟩ := hrel
    have hsz := hh.out.2.size
    cases t : decide ((k : Int) < 80) with
    | true =>
      have t' := of_decide_eq_true t
      have a1 := mark_any 7 k wr
      go_wp2_with fail
      refine a1.mono ?_
      rintro e w3 ⟨rfl, h3⟩
      obtain rfl := h3.symm
      have HB3 := Lib.hid hh.out.2; have HOW := Lib.hid hh.out.1
      go_wp2_with (first | (at_builtin; refine wpList_append_fits _ rfl _ _ 22 rfl w.heap.size 3 i0 1 Tryz.underlying22 H0.out HZ1.out w.heap.size (n + k) (n + 80) _ rfl (HOW.out.alloc _) ⟨wr.heap.size, 0, none⟩ 1 1 [.int .i64 (markI 7 k)] rfl rfl (cell_one_new wr _ 3) ?d1 ?d2 ?_))
      case d1 => intro u hu; simp at hu; subst hu; rfl
      case d2 => omega
      intro w4 ho4 hg4
      have hsz3 := HB3.out.size
      have HB4 := Lib.hid ((HB3.out.alloc HB3.out.size _).grown hg4 (by simp; omega) (fun j hj => by rw [← Option.some.inj hj]; exact Nat.le_refl _))
      have ho5 : w4.ownsRow w.heap.size 3 1 (.slice (some ⟨w.heap.size, 0, none⟩) (n + (k + 1)) (n + 80)) (n + (k + 1)) (nls (spare ss n) (n + (k + 1))) := by
        have e1 : nls (spare ss n) (n + (k + 1)) = nls (spare ss n) (n + k) ++ [.int .i64 (markI 7 k)] := by
          show nls (spare ss n) (n + k) ++ [.int .i64 (spare ss n (n + k))] = _
          unfold spare; rw [if_neg (by omega), Nat.add_sub_cancel_left]
        rw [e1]; exact ho4
      have HO5 := Lib.hid ho5; clear ho4 hg4 ho5
      go_wp2
      go_roundw
      case rel => exact ⟨k + 1, by rfl, by go_num, by omega, HO5.out, HB4.out⟩
      case measure => simp [intOf]; omega
    | false =>
      have t' := of_decide_eq_false t
      obtain rfl : k = 80 := by omega
      go_wp2
      go_ret2
      exact ⟨rfl, hh.out.1, hh.out.2⟩

end Go.Proofs.YthkobjbemmllfaaGreatDoor
