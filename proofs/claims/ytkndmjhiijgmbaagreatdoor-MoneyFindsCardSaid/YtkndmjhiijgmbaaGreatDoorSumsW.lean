/- remitlaw04.MoneySums: walked, over the contract of fixed. -/
import Derived.Test.YtkndmjhiijgmbaaGreatDoorAddSub
import Derived.BigQuiet
import Derived.Deep.QuietTactic
import Derived.Deep.DeepCutAuto
namespace Go.Proofs.YtkndmjhiijgmbaaGreatDoor
open Go.RowKit

/-- A slice of numbers that came in. -/
def Ints (w : World) (A : Option Addr) (n : Nat) (f : Nat → Int) : Prop := n = 0 ∨ ∃ b o, A = some ⟨b, o, none⟩ ∧ b < w.heap.size ∧ ∀ i, i < n → w.cell? ⟨b, o + i, none⟩ = some (.int .i64 (f i))

/-- Is the error of a sum none? -/
theorem ev_nil (B : Nat → Addr) (S : Int) (k : Nat) (w : World) : ∃ q, (eqGuard .eql 26 (.tmp k) (.const .nilIface) (ev B (fn S)) .nilIface).run Tryz.prog w = .ok () w ∧ (binOp .eql 26 (ev B (fn S)) .nilIface).run Tryz.prog w = .ok (.bool q) w ∧ (q = true ↔ fits64 S) := by
  by_cases h : fits64 S
  · have e : ev B (fn S) = .nilIface := by unfold fn; rw [if_pos h]; rfl
    rw [e]
    exact ⟨true, by kernel_rfl, by kernel_rfl, fun _ => h, fun _ => rfl⟩
  · have e : ev B (fn S) = .iface 267 (.pointer (some (B (G 9)))) := by unfold fn; rw [if_neg h]; rfl
    rw [e]
    exact ⟨false, by kernel_rfl, by kernel_rfl, (fun h => by cases h), fun h' => absurd h' h⟩
/-- Where the list is cut. -/
theorem cut_at (cut : Int) (n : Nat) (hn : n ≤ 17592186044416) : ∃ k : Nat, wrap64 ((IntKind.u64.wrap cut).tmod ((n : Int) + 1)) = k ∧ k ≤ n := by
  have h0 : 0 ≤ IntKind.u64.wrap cut := by simp only [IntKind.wrap_u64]; omega
  generalize IntKind.u64.wrap cut = x at *
  rw [Int.tmod_eq_emod_of_nonneg h0]
  have h1 := Int.emod_nonneg x (b := (n : Int) + 1) (by omega)
  have h2 := Int.emod_lt_of_pos x (b := (n : Int) + 1) (by omega)
  generalize x % ((n : Int) + 1) = r at *
  exact ⟨r.toNat, by unfold wrap64; omega, by omega⟩
theorem sumTo_split (f : Nat → Int) (k : Nat) : ∀ m, sumTo f (k + m) = sumTo f k + sumTo (fun i => f (k + i)) m
  | 0 => by simp [sumTo]
  | m + 1 => by rw [← Nat.add_assoc, sumTo_succ, sumTo_succ, sumTo_split f k m]; omega
theorem add_at {b o : Nat} (i : Nat) : (⟨b, o, none⟩ : Addr).add i = ⟨b, o + i, none⟩ := by unfold Addr.add; split <;> simp_all
/-- What stands behind the cut. -/
theorem ints_drop {w : World} {A A' : Option Addr} {n k : Nat} {f : Nat → Int} (h : Ints w A n f) (hk : k ≤ n) (hA : A' = A ∧ k = n ∨ A' = A.map (fun x => x.add k)) : Ints w A' (n - k) (fun i => f (k + i)) := by
  rcases h with h | ⟨b, o, rfl, h2, h3⟩
  · exact .inl (by omega)
  · rcases hA with ⟨rfl, hc⟩ | rfl
    · exact .inl (by omega)
    · exact .inr ⟨b, o + k, congrArg some (add_at k), h2, fun i hi => by have := h3 (k + i) (by omega); rwa [← Nat.add_assoc] at this⟩
/-- Half the sum, as the law reckons it. -/
def halfOf (a b : Int) : Int := wrap64 (wrap64 (wrap64 (a.tdiv 2) + wrap64 (b.tdiv 2)) + wrap64 ((wrap64 (a.tmod 2 + b.tmod 2)).tdiv 2))
theorem half_eq {a b : Int} (ha : fits64 a) (hb : fits64 b) : ∃ r, a + b = 2 * halfOf a b + r ∧ -1 ≤ r ∧ r ≤ 1 := by
  obtain ⟨a1, a2⟩ := ha
  obtain ⟨b1, b2⟩ := hb
  have ea := Int.mul_tdiv_add_tmod a 2
  have eb := Int.mul_tdiv_add_tmod b 2
  have la := Int.tmod_lt_of_pos a (b := 2) (by decide)
  have lb := Int.tmod_lt_of_pos b (b := 2) (by decide)
  have ga : -2 < a.tmod 2 := by have := Int.tmod_lt_of_pos (-a) (b := 2) (by decide); rw [Int.neg_tmod] at this; omega
  have gb : -2 < b.tmod 2 := by have := Int.tmod_lt_of_pos (-b) (b := 2) (by decide); rw [Int.neg_tmod] at this; omega
  have na : 0 ≤ a → 0 ≤ a.tmod 2 := fun h => Int.tmod_nonneg 2 h
  have nb : 0 ≤ b → 0 ≤ b.tmod 2 := fun h => Int.tmod_nonneg 2 h
  have ma : a ≤ 0 → a.tmod 2 ≤ 0 := fun h => by have := Int.tmod_nonneg (a := -a) 2 (by omega); rw [Int.neg_tmod] at this; omega
  have mb : b ≤ 0 → b.tmod 2 ≤ 0 := fun h => by have := Int.tmod_nonneg (a := -b) 2 (by omega); rw [Int.neg_tmod] at this; omega
  unfold halfOf
  generalize a.tdiv 2 = A at *
  generalize b.tdiv 2 = B at *
  generalize a.tmod 2 = x at *
  generalize b.tmod 2 = y at *
  have w1 : wrap64 A = A := by unfold wrap64; omega
  have w2 : wrap64 B = B := by unfold wrap64; omega
  have w3 : wrap64 (x + y) = x + y := by unfold wrap64; omega
  have es := Int.mul_tdiv_add_tmod (x + y) 2
  have ls := Int.tmod_lt_of_pos (x + y) (b := 2) (by decide)
  have gs : -2 < (x + y).tmod 2 := by have := Int.tmod_lt_of_pos (-(x + y)) (b := 2) (by decide); rw [Int.neg_tmod] at this; omega
  rw [w1, w2, w3]
  generalize (x + y).tdiv 2 = t at *
  generalize (x + y).tmod 2 = u at *
  have w4 : wrap64 t = t := by unfold wrap64; omega
  rw [w4]
  have w5 : wrap64 (A + B) = A + B := by unfold wrap64; omega
  rw [w5]
  have w6 : wrap64 (A + B + t) = A + B + t := by unfold wrap64; omega
  rw [w6]
  exact ⟨u, by omega, by omega, by omega⟩

set_option maxRecDepth 100000 in
set_option maxHeartbeats 4000000 in
theorem sums_fit (B : Nat → Addr) (a b cut : Int) (A : Option Addr) (n c : Nat) (f : Nat → Int) (w : World) (hE : Env w B) (hfix : Calls Tryz.prog 6 #[] w fun e w' => e = .returned (.bool true) ∧ Below w.heap.size w w')
    (ha : fits64 a) (hb : fits64 b) (hc : fits64 cut) (hA : Ints w A n f) (hf : ∀ i, i < n → fits64 (f i)) (hn : n ≤ 17592186044416) (hcap : n ≤ c) (hS : fits64 (a + b)) :
    Calls Tryz.prog 4 #[.int .i64 a, .int .i64 b, .slice A n c, .int .i64 cut] w fun e w' => e = .returned (.bool true) ∧ Below w.heap.size w w' := by
  have HE := Lib.hid hE; have HA := Lib.hid hA; have HF := Lib.hid hf; have Ha := Lib.hid ha; have Hb := Lib.hid hb; have Hc := Lib.hid hc
  clear hE hA hf ha hb hc
  go_enter Tryz.func4, Tryz.ntmps4
  go_wp2_with fail
  refine hfix.mono ?_
  clear hfix
  rintro e w1 ⟨rfl, hb1⟩
  have HB1 := Lib.hid hb1
  have a1 := add2_any B a b w1 (HE.out.below hb1) Ha.out Hb.out
  clear hb1
  go_wp2_with fail
  refine a1.mono ?_
  clear a1
  rintro e w2 ⟨rfl, hb2⟩
  have HB2 := Lib.hid (HB1.out.trans (hb2.mono HB1.out.size))
  clear hb2
  have hs2 : sumTo (fun i => if i = 0 then b else a) 2 = a + b := by simp [sumTo]; omega
  have a2 := sum_any B (some ⟨w2.heap.size, 0, none⟩) 2 2 (fun i => if i = 0 then b else a) (w2.alloc (.cells #[.int .i64 b, .int .i64 a] 2)) (HE.out.below (HB2.out.trans ((Below.new w2 _).mono HB2.out.size)))
    (.inr ⟨w2.heap.size, 0, rfl, by simp, fun i hi => by
      have : i = 0 ∨ i = 1 := by omega
      rcases this with rfl | rfl <;> simp⟩) (fun i _ => by show fits64 (if i = 0 then b else a); split; exact Hb.out; exact Ha.out) (by decide)
  rw [hs2] at a2
  have HB2' := Lib.hid (HB2.out.trans ((Below.new w2 (.cells #[.int .i64 b, .int .i64 a] 2)).mono HB2.out.size))
  clear hs2
  go_wp2_with fail
  refine a2.mono ?_
  clear a2
  rintro e w3 ⟨rfl, hb3⟩
  have HB3 := Lib.hid (HB2'.out.trans (hb3.mono HB2'.out.size))
  have a3 := add2_any B b a w3 (HE.out.below HB3.out) Hb.out Ha.out
  rw [Int.add_comm b a] at a3
  clear hb3 HB2 HB2' HB1
  go_wp2_with fail
  refine a3.mono ?_
  clear a3
  rintro e w4 ⟨rfl, hb4⟩
  have HB4 := Lib.hid (HB3.out.trans (hb4.mono HB3.out.size))
  clear hb4 HB3
  · have e1 : fv (a + b) = a + b := if_pos hS
    have e2 : ev B (fn (a + b)) = .nilIface := by unfold fn; rw [if_pos hS]; rfl
    rw [e2, e1]
    have NUM := Lib.hid (show ∀ v, Below w.heap.size w v → Calls Tryz.prog 8 #[.nilIface] v fun e w' => e = .returned (.int .i64 0) ∧ Below v.heap.size v w' from fun v _ => num_nil v)
    have HS := Lib.hid hS
    clear hS e1 e2
    go_wp2_with fail
    refine (NUM.out _ HB4.out).mono ?_
    rintro e w5 ⟨rfl, hb5⟩
    have HB5 := Lib.hid (HB4.out.trans (hb5.mono HB4.out.size))
    clear hb5 HB4
    go_wp2_with fail
    refine (NUM.out _ HB5.out).mono ?_
    rintro e w6 ⟨rfl, hb6⟩
    have HB6 := Lib.hid (HB5.out.trans (hb6.mono HB5.out.size))
    clear hb6 HB5
    go_wp2_with fail
    refine (NUM.out _ HB6.out).mono ?_
    rintro e w7 ⟨rfl, hb7⟩
    have HB7 := Lib.hid (HB6.out.trans (hb7.mono HB6.out.size))
    clear hb7 HB6
    go_wp2_with fail
    refine (NUM.out _ HB7.out).mono ?_
    rintro e w8 ⟨rfl, hb8⟩
    have HB8 := Lib.hid (HB7.out.trans (hb8.mono HB7.out.size))
    clear hb8 HB7
    go_upto_region 8 with fail
    go_cut [15] from 85 to 96 (fun v wr => v = .int .i64 (halfOf a b) ∧ wr = w8)
    case first =>
      go_wp2
      go_meet
      exact ⟨rfl, rfl⟩
    case rest =>
      obtain ⟨rfl, rfl⟩ := hcut
      have HH := Lib.hid (show halfOf a b < 4611686018427387907 ∧ -4611686018427387907 < halfOf a b by
        obtain ⟨r, h1, h2, h3⟩ := half_eq Ha.out Hb.out
        obtain ⟨s1, s2⟩ := HS.out; constructor <;> omega)
      generalize halfOf a b = H at *
      go_upto_region 9 with fail
      go_cut [16] from 97 to 102 (fun v wr => ∃ q, v = .bool q ∧ Hid (q = true ↔ (4611686018427387904 ≤ H ∨ H < -4611686018427387904)) ∧ wr = wc)
      case first =>
        by_cases k1 : 4611686018427387904 ≤ H
        · have d1 : decide (4611686018427387904 ≤ H) = true := decide_eq_true k1
          have K := Lib.hid k1
          clear k1
          go_wp2
          go_meet
          exact ⟨_, rfl, ⟨fun _ => .inl K.out, fun _ => rfl⟩, rfl⟩
        · have d1 : decide (4611686018427387904 ≤ H) = false := decide_eq_false k1
          have K := Lib.hid k1
          clear k1
          go_wp2
          go_meet
          exact ⟨_, rfl, ⟨fun h => .inr (by simpa using h), fun h => by simpa using h.resolve_left (fun h2 => absurd K.out (by omega))⟩, rfl⟩
      case rest =>
        obtain ⟨o, rfl, ho, rfl⟩ := hcut
        go_upto_region 10 with fail
        go_cut [17] from 103 to 116 (fun v wr => ∃ q, v = .bool q ∧ Hid (q = false → o = false) ∧ wr = wc)
        case first =>
          by_cases k1 : 4611686018427387901 < H
          · have d1 : decide (4611686018427387901 < H) = true := decide_eq_true k1
            by_cases k2 : H < 4611686018427387907
            · have d2 : decide (H < 4611686018427387907) = true := decide_eq_true k2
              have K1 := Lib.hid k1; have K2 := Lib.hid k2
              clear k1 k2
              go_wp2
              go_meet
              exact ⟨_, rfl, Lib.hid (fun h => by cases h), rfl⟩
            · have d2 : decide (H < 4611686018427387907) = false := decide_eq_false k2
              have d3 : decide (-4611686018427387907 < H) = true := decide_eq_true (by omega)
              have d4 : decide (H < -4611686018427387901) = false := decide_eq_false (by omega)
              have K1 := Lib.hid k1; have K2 := Lib.hid k2; have K3 := Lib.hid k1; have K4 := Lib.hid k2
              clear k1 k2
              go_wp2
              go_meet
              exact ⟨_, rfl, Lib.hid (fun _ => by
                have h9 := ho.out; have hh := HH.out; have k1 := K1.out; have k2 := K2.out; have k3 := K3.out; have k4 := K4.out
                cases o with
                | true => have h8 := h9.1 rfl; omega
                | false => rfl), rfl⟩
          · have d1 : decide (4611686018427387901 < H) = false := decide_eq_false k1
            by_cases k3 : -4611686018427387907 < H
            · have d3 : decide (-4611686018427387907 < H) = true := decide_eq_true k3
              by_cases k4 : H < -4611686018427387901
              · have d4 : decide (H < -4611686018427387901) = true := decide_eq_true k4
                have K1 := Lib.hid k1; have K3 := Lib.hid k3; have K4 := Lib.hid k4
                clear k1 k3 k4
                go_wp2
                go_meet
                exact ⟨_, rfl, Lib.hid (fun h => by cases h), rfl⟩
              · have d4 : decide (H < -4611686018427387901) = false := decide_eq_false k4
                have K1 := Lib.hid k1; have K3 := Lib.hid k3; have K4 := Lib.hid k4; have K2 := Lib.hid k1
                clear k1 k3 k4
                go_wp2
                go_meet
                exact ⟨_, rfl, Lib.hid (fun _ => by
                  have h9 := ho.out; have hh := HH.out; have k1 := K1.out; have k2 := K2.out; have k3 := K3.out; have k4 := K4.out
                  cases o with
                  | true => have h8 := h9.1 rfl; omega
                  | false => rfl), rfl⟩
            · have d3 : decide (-4611686018427387907 < H) = false := decide_eq_false k3
              have K1 := Lib.hid k1; have K3 := Lib.hid k3; have K2 := Lib.hid k1; have K4 := Lib.hid k1
              clear k1 k3
              go_wp2
              go_meet
              exact ⟨_, rfl, Lib.hid (fun _ => by
                have h9 := ho.out; have hh := HH.out; have k1 := K1.out; have k2 := K2.out; have k3 := K3.out; have k4 := K4.out
                cases o with
                | true => have h8 := h9.1 rfl; omega
                | false => rfl), rfl⟩
        case rest =>
          obtain ⟨q, rfl, hq, rfl⟩ := hcut
          go_upto_region 11 with fail
          go_cut [124] from 117 to 124 (fun v wr => v = .bool false ∧ wr = wc)
          case first =>
            cases q with
            | true =>
              go_wp2
              go_meet
              exact ⟨rfl, rfl⟩
            | false =>
              obtain rfl := hq.out rfl
              go_wp2
              go_meet
              exact ⟨rfl, rfl⟩
          case rest =>
            obtain ⟨rfl, rfl⟩ := hcut
            have HB := Lib.hid HB8.out
            clear ho hq HB8 HH
            have a4 := sub2_any B (a + b) b wc (HE.out.below HB.out) HS.out Hb.out
            rw [show a + b - b = a by omega] at a4
            have e4 : fv a = a := if_pos Ha.out
            have e5 : ev B (fn a) = .nilIface := by unfold fn; rw [if_pos Ha.out]; rfl
            unfold FitPost at a4
            rw [e4, e5] at a4
            clear e4 e5
            go_wp2_with fail
            refine a4.mono ?_
            clear a4
            rintro e w10 ⟨rfl, hb10⟩
            have HB10 := Lib.hid (HB.out.trans (hb10.mono HB.out.size))
            clear hb10 HB
            have a5 := sub2_any B a b w10 (HE.out.below HB10.out) Ha.out Hb.out
            go_wp2_with fail
            refine a5.mono ?_
            clear a5
            rintro e w11 ⟨rfl, hb11⟩
            have HB11 := Lib.hid (HB10.out.trans (hb11.mono HB10.out.size))
            clear hb11 HB10
            obtain ⟨q2, hq1, hq2, hq3⟩ := ev_nil B (a - b) 146 w11
            have HQ3 := Lib.hid hq3
            clear hq3
            go_upto_if 147 with fail
            go_cut [] from 148 to 160 (fun wr => Hid (Below w.heap.size w wr))
            case first =>
              cases q2 with
              | false =>
                go_wp2
                go_meet
                exact HB11
              | true =>
                have D := HQ3.out.1 rfl
                have a6 := add2_any B (a - b) b w11 (HE.out.below HB11.out) D Hb.out
                rw [show a - b + b = a by omega] at a6
                have e4 : fv a = a := if_pos Ha.out
                have e5 : ev B (fn a) = .nilIface := by unfold fn; rw [if_pos Ha.out]; rfl
                have e6 : fv (a - b) = a - b := if_pos D
                unfold FitPost at a6
                rw [e4, e5] at a6
                rw [← e6] at a6
                clear e4 e5 e6 D
                go_wp2_with fail
                refine a6.mono ?_
                clear a6
                rintro e w12 ⟨rfl, hb12⟩
                have HB12 := Lib.hid (HB11.out.trans (hb12.mono HB11.out.size))
                clear hb12
                go_wp2
                go_meet
                exact HB12
            case rest =>
              have HB := hcut
              clear hcut hq1 hq2 HQ3 HB11
              go_upto_region 22 with fail
              go_cut [24] from 161 to 168 (fun v wr => ∃ k : Nat, v = .int .i64 k ∧ k ≤ n ∧ wr = wc)
              case first =>
                go_wp2
                go_meet
                obtain ⟨k, hk1, hk2⟩ := cut_at cut n hn
                rw [hk1]
                exact ⟨k, rfl, hk2, rfl⟩
              case rest =>
                obtain ⟨k, rfl, hk, rfl⟩ := hcut
                have HAI : Ints wc A n f := HA.out.imp id fun ⟨b', o', h1, h2, h3⟩ => ⟨b', o', h1, Nat.lt_of_lt_of_le h2 HB.out.size, fun i hi => (HB.out.cell (p := ⟨b', o' + i, none⟩) h2).trans (h3 i hi)⟩
                have a7 := sum_any B A n c f wc (HE.out.below HB.out) HAI HF.out (by omega)
                clear HAI
                go_wp2_with fail
                refine a7.mono ?_
                clear a7
                rintro e w13 ⟨rfl, hb13⟩
                have HB13 := Lib.hid (HB.out.trans (hb13.mono HB.out.size))
                clear hb13 HB
                have HAI2 : Ints w13 A k f := HA.out.elim (fun h => .inl (by omega)) fun ⟨b', o', h1, h2, h3⟩ => .inr ⟨b', o', h1, Nat.lt_of_lt_of_le h2 HB13.out.size, fun i hi => (HB13.out.cell (p := ⟨b', o' + i, none⟩) h2).trans (h3 i (by omega))⟩
                have a8 := sum_any B A k c f w13 (HE.out.below HB13.out) HAI2 (fun i hi => HF.out i (by omega)) (by omega)
                clear HAI2
                go_wp2_with fail
                refine a8.mono ?_
                clear a8
                rintro e w14 ⟨rfl, hb14⟩
                have HB14 := Lib.hid (HB13.out.trans (hb14.mono HB13.out.size))
                clear hb14 HB13
                have SUMC := Lib.hid (show ∀ A', (A' = A ∧ k = n ∨ A' = A.map (fun x => x.add k)) → Calls Tryz.prog 12 #[.slice A' (n - k) (c - k)] w14 (FitPost B (sumTo (fun i => f (k + i)) (n - k)) w14) from fun A' hA' =>
                  sum_any B A' (n - k) (c - k) (fun i => f (k + i)) w14 (HE.out.below HB14.out) (ints_drop (HA.out.imp id fun ⟨b', o', h1, h2, h3⟩ => ⟨b', o', h1, Nat.lt_of_lt_of_le h2 HB14.out.size, fun i hi => (HB14.out.cell (p := ⟨b', o' + i, none⟩) h2).trans (h3 i hi)⟩) hk hA') (fun i hi => HF.out (k + i) (by omega)) (by omega))
                have HSP := Lib.hid (show sumTo f n = sumTo f k + sumTo (fun i => f (k + i)) (n - k) by rw [← sumTo_split, show k + (n - k) = n by omega])
                generalize sumTo (fun i => f (k + i)) (n - k) = S2 at *
                generalize sumTo f k = S1 at *
                generalize sumTo f n = S at *
                go_upto_region 25 with fail
                go_cut [29, 30] from 181 to 187 (fun x y wr => x = .int .i64 (fv S2) ∧ y = ev B (fn S2) ∧ Hid (Below w.heap.size w wr))
                case first =>
                  by_cases hck : c = k
                  · obtain rfl : c = n := by omega
                    obtain rfl : c = k := hck
                    have sc := SUMC.out A (.inl ⟨rfl, rfl⟩)
                    rw [Nat.sub_self] at sc
                    go_wp2_with fail
                    refine sc.mono ?_
                    clear sc
                    rintro e w15 ⟨rfl, hb15⟩
                    have HB15 := Lib.hid (HB14.out.trans (hb15.mono HB14.out.size))
                    clear hb15
                    go_wp2
                    go_meet
                    exact ⟨rfl, rfl, HB15⟩
                  · have sc := SUMC.out _ (.inr rfl)
                    go_wp2_with fail
                    refine sc.mono ?_
                    clear sc
                    rintro e w15 ⟨rfl, hb15⟩
                    have HB15 := Lib.hid (HB14.out.trans (hb15.mono HB14.out.size))
                    clear hb15
                    go_wp2
                    go_meet
                    exact ⟨rfl, rfl, HB15⟩
                case rest =>
                  obtain ⟨rfl, rfl, HB⟩ := hcut
                  clear SUMC HB14
                  by_cases f1 : fits64 S1
                  · by_cases f2 : fits64 S2
                    · have g1 : fv S1 = S1 := if_pos f1
                      have g2 : fv S2 = S2 := if_pos f2
                      have g3 : ev B (fn S1) = .nilIface := by unfold fn; rw [if_pos f1]; rfl
                      have g4 : ev B (fn S2) = .nilIface := by unfold fn; rw [if_pos f2]; rfl
                      have a9 := add2_any B S1 S2 wc (HE.out.below HB.out) f1 f2
                      rw [← HSP.out] at a9
                      rw [g1, g2, g3, g4]
                      clear g1 g2 g3 g4 f1 f2
                      go_wp2_with fail
                      refine a9.mono ?_
                      clear a9
                      rintro e w16 ⟨rfl, hb16⟩
                      have HB16 := Lib.hid (HB.out.trans (hb16.mono HB.out.size))
                      clear hb16 HB
                      have hfn : fn S ≤ 37 := by unfold fn; split <;> decide
                      have HFN := Lib.hid hfn
                      clear hfn
                      have a10 := num_any B w16 (HE.out.below HB16.out) (fn S) HFN.out
                      go_wp2_with fail
                      refine a10.mono ?_
                      clear a10
                      rintro e w17 ⟨rfl, hb17⟩
                      have HB17 := Lib.hid (HB16.out.trans (hb17.mono HB16.out.size))
                      clear hb17 HB16
                      have a11 := num_any B w17 (HE.out.below HB17.out) (fn S) HFN.out
                      go_wp2_with fail
                      refine a11.mono ?_
                      clear a11
                      rintro e w18 ⟨rfl, hb18⟩
                      have HB18 := Lib.hid (HB17.out.trans (hb18.mono HB17.out.size))
                      clear hb18 HB17
                      go_wp2
                      go_ret
                      exact ⟨rfl, HB18.out⟩
                    · have g3 : ev B (fn S1) = .nilIface := by unfold fn; rw [if_pos f1]; rfl
                      have g4 : ev B (fn S2) = .iface 267 (.pointer (some (B (G 9)))) := by unfold fn; rw [if_neg f2]; rfl
                      rw [g3, g4]
                      clear g3 g4 f1 f2 HSP
                      go_wp2
                      go_ret
                      exact ⟨rfl, HB.out⟩
                  · have g3 : ev B (fn S1) = .iface 267 (.pointer (some (B (G 9)))) := by unfold fn; rw [if_neg f1]; rfl
                    rw [g3]
                    clear g3 f1 HSP
                    go_wp2
                    go_ret
                    exact ⟨rfl, HB.out⟩
set_option maxRecDepth 100000 in
set_option maxHeartbeats 4000000 in
theorem sums_not (B : Nat → Addr) (a b cut : Int) (A : Option Addr) (n c : Nat) (f : Nat → Int) (w : World) (hE : Env w B) (hfix : Calls Tryz.prog 6 #[] w fun e w' => e = .returned (.bool true) ∧ Below w.heap.size w w')
    (ha : fits64 a) (hb : fits64 b) (hc : fits64 cut) (hA : Ints w A n f) (hf : ∀ i, i < n → fits64 (f i)) (hn : n ≤ 17592186044416) (hcap : n ≤ c) (hS : ¬ fits64 (a + b)) :
    Calls Tryz.prog 4 #[.int .i64 a, .int .i64 b, .slice A n c, .int .i64 cut] w fun e w' => e = .returned (.bool true) ∧ Below w.heap.size w w' := by
  have HE := Lib.hid hE; have HA := Lib.hid hA; have HF := Lib.hid hf; have Ha := Lib.hid ha; have Hb := Lib.hid hb; have Hc := Lib.hid hc
  clear hE hA hf ha hb hc
  go_enter Tryz.func4, Tryz.ntmps4
  go_wp2_with fail
  refine hfix.mono ?_
  clear hfix
  rintro e w1 ⟨rfl, hb1⟩
  have HB1 := Lib.hid hb1
  have a1 := add2_any B a b w1 (HE.out.below hb1) Ha.out Hb.out
  clear hb1
  go_wp2_with fail
  refine a1.mono ?_
  clear a1
  rintro e w2 ⟨rfl, hb2⟩
  have HB2 := Lib.hid (HB1.out.trans (hb2.mono HB1.out.size))
  clear hb2
  have hs2 : sumTo (fun i => if i = 0 then b else a) 2 = a + b := by simp [sumTo]; omega
  have a2 := sum_any B (some ⟨w2.heap.size, 0, none⟩) 2 2 (fun i => if i = 0 then b else a) (w2.alloc (.cells #[.int .i64 b, .int .i64 a] 2)) (HE.out.below (HB2.out.trans ((Below.new w2 _).mono HB2.out.size)))
    (.inr ⟨w2.heap.size, 0, rfl, by simp, fun i hi => by
      have : i = 0 ∨ i = 1 := by omega
      rcases this with rfl | rfl <;> simp⟩) (fun i _ => by show fits64 (if i = 0 then b else a); split; exact Hb.out; exact Ha.out) (by decide)
  rw [hs2] at a2
  have HB2' := Lib.hid (HB2.out.trans ((Below.new w2 (.cells #[.int .i64 b, .int .i64 a] 2)).mono HB2.out.size))
  clear hs2
  go_wp2_with fail
  refine a2.mono ?_
  clear a2
  rintro e w3 ⟨rfl, hb3⟩
  have HB3 := Lib.hid (HB2'.out.trans (hb3.mono HB2'.out.size))
  have a3 := add2_any B b a w3 (HE.out.below HB3.out) Hb.out Ha.out
  rw [Int.add_comm b a] at a3
  clear hb3 HB2 HB2' HB1
  go_wp2_with fail
  refine a3.mono ?_
  clear a3
  rintro e w4 ⟨rfl, hb4⟩
  have HB4 := Lib.hid (HB3.out.trans (hb4.mono HB3.out.size))
  clear hb4 HB3
  · have e1 : fv (a + b) = 0 := if_neg hS
    have e2 : fn (a + b) = 10 := if_neg hS
    rw [e2, e1]
    have NUM := Lib.hid (show ∀ v, Below w.heap.size w v → Calls Tryz.prog 8 #[ev B 10] v fun e w' => e = .returned (.int .i64 10) ∧ Below v.heap.size v w' from fun v hv => num_any B v (HE.out.below hv) 10 (by decide))
    have HS := Lib.hid hS
    have e3 : ev B 10 = .iface 267 (.pointer (some (B (G 9)))) := rfl
    rw [e3] at NUM ⊢
    clear hS e1 e2 e3
    go_wp2_with fail
    refine (NUM.out _ HB4.out).mono ?_
    rintro e w5 ⟨rfl, hb5⟩
    have HB5 := Lib.hid (HB4.out.trans (hb5.mono HB4.out.size))
    clear hb5 HB4
    go_wp2_with fail
    refine (NUM.out _ HB5.out).mono ?_
    rintro e w6 ⟨rfl, hb6⟩
    have HB6 := Lib.hid (HB5.out.trans (hb6.mono HB5.out.size))
    clear hb6 HB5
    go_wp2_with fail
    refine (NUM.out _ HB6.out).mono ?_
    rintro e w7 ⟨rfl, hb7⟩
    have HB7 := Lib.hid (HB6.out.trans (hb7.mono HB6.out.size))
    clear hb7 HB6
    go_wp2_with fail
    refine (NUM.out _ HB7.out).mono ?_
    rintro e w8 ⟨rfl, hb8⟩
    have HB8 := Lib.hid (HB7.out.trans (hb8.mono HB7.out.size))
    clear hb8 HB7
    go_wp2_with fail
    refine (NUM.out _ HB8.out).mono ?_
    rintro e w9 ⟨rfl, hb9⟩
    have HB9 := Lib.hid (HB8.out.trans (hb9.mono HB8.out.size))
    clear hb9 HB8
    go_upto_region 8 with fail
    go_cut [15] from 85 to 96 (fun v wr => v = .int .i64 (halfOf a b) ∧ wr = w9)
    case first =>
      go_wp2
      go_meet
      exact ⟨rfl, rfl⟩
    case rest =>
      obtain ⟨rfl, rfl⟩ := hcut
      have HH := Lib.hid (show halfOf a b > 4611686018427387901 ∨ -4611686018427387901 > halfOf a b by
        obtain ⟨r, h1, h2, h3⟩ := half_eq Ha.out Hb.out
        have s1 := HS.out; unfold fits64 at s1; omega)
      generalize halfOf a b = H at *
      go_upto_region 9 with fail
      go_cut [16] from 97 to 102 (fun v wr => ∃ q, v = .bool q ∧ Hid (q = true ↔ (4611686018427387904 ≤ H ∨ H < -4611686018427387904)) ∧ wr = wc)
      case first =>
        by_cases k1 : 4611686018427387904 ≤ H
        · have d1 : decide (4611686018427387904 ≤ H) = true := decide_eq_true k1
          have K := Lib.hid k1
          clear k1
          go_wp2
          go_meet
          exact ⟨_, rfl, ⟨fun _ => .inl K.out, fun _ => rfl⟩, rfl⟩
        · have d1 : decide (4611686018427387904 ≤ H) = false := decide_eq_false k1
          have K := Lib.hid k1
          clear k1
          go_wp2
          go_meet
          exact ⟨_, rfl, ⟨fun h => .inr (by simpa using h), fun h => by simpa using h.resolve_left (fun h2 => absurd K.out (by omega))⟩, rfl⟩
      case rest =>
        obtain ⟨o, rfl, ho, rfl⟩ := hcut
        go_upto_region 10 with fail
        go_cut [17] from 103 to 116 (fun v wr => ∃ q, v = .bool q ∧ Hid (q = false → o = true) ∧ wr = wc)
        case first =>
          by_cases k1 : 4611686018427387901 < H
          · have d1 : decide (4611686018427387901 < H) = true := decide_eq_true k1
            by_cases k2 : H < 4611686018427387907
            · have d2 : decide (H < 4611686018427387907) = true := decide_eq_true k2
              have K1 := Lib.hid k1; have K2 := Lib.hid k2
              clear k1 k2
              go_wp2
              go_meet
              exact ⟨_, rfl, Lib.hid (fun h => by cases h), rfl⟩
            · have d2 : decide (H < 4611686018427387907) = false := decide_eq_false k2
              have d3 : decide (-4611686018427387907 < H) = true := decide_eq_true (by omega)
              have d4 : decide (H < -4611686018427387901) = false := decide_eq_false (by omega)
              have K1 := Lib.hid k1; have K2 := Lib.hid k2; have K3 := Lib.hid k1; have K4 := Lib.hid k2
              clear k1 k2
              go_wp2
              go_meet
              exact ⟨_, rfl, Lib.hid (fun _ => by
                have h9 := ho.out; have hh := HH.out; have k1 := K1.out; have k2 := K2.out; have k3 := K3.out; have k4 := K4.out
                cases o with
                | true => rfl
                | false => exfalso; have h8 : ¬ (4611686018427387904 ≤ H ∨ H < -4611686018427387904) := fun h => (by simpa using h9.2 h); omega), rfl⟩
          · have d1 : decide (4611686018427387901 < H) = false := decide_eq_false k1
            by_cases k3 : -4611686018427387907 < H
            · have d3 : decide (-4611686018427387907 < H) = true := decide_eq_true k3
              by_cases k4 : H < -4611686018427387901
              · have d4 : decide (H < -4611686018427387901) = true := decide_eq_true k4
                have K1 := Lib.hid k1; have K3 := Lib.hid k3; have K4 := Lib.hid k4
                clear k1 k3 k4
                go_wp2
                go_meet
                exact ⟨_, rfl, Lib.hid (fun h => by cases h), rfl⟩
              · have d4 : decide (H < -4611686018427387901) = false := decide_eq_false k4
                have K1 := Lib.hid k1; have K3 := Lib.hid k3; have K4 := Lib.hid k4; have K2 := Lib.hid k1
                clear k1 k3 k4
                go_wp2
                go_meet
                exact ⟨_, rfl, Lib.hid (fun _ => by
                  have h9 := ho.out; have hh := HH.out; have k1 := K1.out; have k2 := K2.out; have k3 := K3.out; have k4 := K4.out
                  cases o with
                  | true => rfl
                  | false => exfalso; have h8 : ¬ (4611686018427387904 ≤ H ∨ H < -4611686018427387904) := fun h => (by simpa using h9.2 h); omega), rfl⟩
            · have d3 : decide (-4611686018427387907 < H) = false := decide_eq_false k3
              have K1 := Lib.hid k1; have K3 := Lib.hid k3; have K2 := Lib.hid k1; have K4 := Lib.hid k1
              clear k1 k3
              go_wp2
              go_meet
              exact ⟨_, rfl, Lib.hid (fun _ => by
                have h9 := ho.out; have hh := HH.out; have k1 := K1.out; have k2 := K2.out; have k3 := K3.out; have k4 := K4.out
                cases o with
                | true => rfl
                | false => exfalso; have h8 : ¬ (4611686018427387904 ≤ H ∨ H < -4611686018427387904) := fun h => (by simpa using h9.2 h); omega), rfl⟩
        case rest =>
          obtain ⟨q, rfl, hq, rfl⟩ := hcut
          go_upto_region 11 with fail
          go_cut [124] from 117 to 124 (fun v wr => v = .bool false ∧ wr = wc)
          case first =>
            cases q with
            | true =>
              go_wp2
              go_meet
              exact ⟨rfl, rfl⟩
            | false =>
              obtain rfl := hq.out rfl
              go_wp2
              go_meet
              exact ⟨rfl, rfl⟩
          case rest =>
            obtain ⟨rfl, rfl⟩ := hcut
            have HB := Lib.hid HB9.out
            clear ho hq HB9 HH
            have a5 := sub2_any B a b wc (HE.out.below HB.out) Ha.out Hb.out
            go_wp2_with fail
            refine a5.mono ?_
            clear a5
            rintro e w11 ⟨rfl, hb11⟩
            have HB11 := Lib.hid (HB.out.trans (hb11.mono HB.out.size))
            clear hb11 HB
            obtain ⟨q2, hq1, hq2, hq3⟩ := ev_nil B (a - b) 146 w11
            have HQ3 := Lib.hid hq3
            clear hq3
            go_upto_if 147 with fail
            go_cut [] from 148 to 160 (fun wr => Hid (Below w.heap.size w wr))
            case first =>
              cases q2 with
              | false =>
                go_wp2
                go_meet
                exact HB11
              | true =>
                have D := HQ3.out.1 rfl
                have a6 := add2_any B (a - b) b w11 (HE.out.below HB11.out) D Hb.out
                rw [show a - b + b = a by omega] at a6
                have e4 : fv a = a := if_pos Ha.out
                have e5 : ev B (fn a) = .nilIface := by unfold fn; rw [if_pos Ha.out]; rfl
                have e6 : fv (a - b) = a - b := if_pos D
                unfold FitPost at a6
                rw [e4, e5] at a6
                rw [← e6] at a6
                clear e4 e5 e6 D
                go_wp2_with fail
                refine a6.mono ?_
                clear a6
                rintro e w12 ⟨rfl, hb12⟩
                have HB12 := Lib.hid (HB11.out.trans (hb12.mono HB11.out.size))
                clear hb12
                go_wp2
                go_meet
                exact HB12
            case rest =>
              have HB := hcut
              clear hcut hq1 hq2 HQ3 HB11
              go_upto_region 22 with fail
              go_cut [24] from 161 to 168 (fun v wr => ∃ k : Nat, v = .int .i64 k ∧ k ≤ n ∧ wr = wc)
              case first =>
                go_wp2
                go_meet
                obtain ⟨k, hk1, hk2⟩ := cut_at cut n hn
                rw [hk1]
                exact ⟨k, rfl, hk2, rfl⟩
              case rest =>
                obtain ⟨k, rfl, hk, rfl⟩ := hcut
                have HAI : Ints wc A n f := HA.out.imp id fun ⟨b', o', h1, h2, h3⟩ => ⟨b', o', h1, Nat.lt_of_lt_of_le h2 HB.out.size, fun i hi => (HB.out.cell (p := ⟨b', o' + i, none⟩) h2).trans (h3 i hi)⟩
                have a7 := sum_any B A n c f wc (HE.out.below HB.out) HAI HF.out (by omega)
                clear HAI
                go_wp2_with fail
                refine a7.mono ?_
                clear a7
                rintro e w13 ⟨rfl, hb13⟩
                have HB13 := Lib.hid (HB.out.trans (hb13.mono HB.out.size))
                clear hb13 HB
                have HAI2 : Ints w13 A k f := HA.out.elim (fun h => .inl (by omega)) fun ⟨b', o', h1, h2, h3⟩ => .inr ⟨b', o', h1, Nat.lt_of_lt_of_le h2 HB13.out.size, fun i hi => (HB13.out.cell (p := ⟨b', o' + i, none⟩) h2).trans (h3 i (by omega))⟩
                have a8 := sum_any B A k c f w13 (HE.out.below HB13.out) HAI2 (fun i hi => HF.out i (by omega)) (by omega)
                clear HAI2
                go_wp2_with fail
                refine a8.mono ?_
                clear a8
                rintro e w14 ⟨rfl, hb14⟩
                have HB14 := Lib.hid (HB13.out.trans (hb14.mono HB13.out.size))
                clear hb14 HB13
                have SUMC := Lib.hid (show ∀ A', (A' = A ∧ k = n ∨ A' = A.map (fun x => x.add k)) → Calls Tryz.prog 12 #[.slice A' (n - k) (c - k)] w14 (FitPost B (sumTo (fun i => f (k + i)) (n - k)) w14) from fun A' hA' =>
                  sum_any B A' (n - k) (c - k) (fun i => f (k + i)) w14 (HE.out.below HB14.out) (ints_drop (HA.out.imp id fun ⟨b', o', h1, h2, h3⟩ => ⟨b', o', h1, Nat.lt_of_lt_of_le h2 HB14.out.size, fun i hi => (HB14.out.cell (p := ⟨b', o' + i, none⟩) h2).trans (h3 i hi)⟩) hk hA') (fun i hi => HF.out (k + i) (by omega)) (by omega))
                have HSP := Lib.hid (show sumTo f n = sumTo f k + sumTo (fun i => f (k + i)) (n - k) by rw [← sumTo_split, show k + (n - k) = n by omega])
                generalize sumTo (fun i => f (k + i)) (n - k) = S2 at *
                generalize sumTo f k = S1 at *
                generalize sumTo f n = S at *
                go_upto_region 25 with fail
                go_cut [29, 30] from 181 to 187 (fun x y wr => x = .int .i64 (fv S2) ∧ y = ev B (fn S2) ∧ Hid (Below w.heap.size w wr))
                case first =>
                  by_cases hck : c = k
                  · obtain rfl : c = n := by omega
                    obtain rfl : c = k := hck
                    have sc := SUMC.out A (.inl ⟨rfl, rfl⟩)
                    rw [Nat.sub_self] at sc
                    go_wp2_with fail
                    refine sc.mono ?_
                    clear sc
                    rintro e w15 ⟨rfl, hb15⟩
                    have HB15 := Lib.hid (HB14.out.trans (hb15.mono HB14.out.size))
                    clear hb15
                    go_wp2
                    go_meet
                    exact ⟨rfl, rfl, HB15⟩
                  · have sc := SUMC.out _ (.inr rfl)
                    go_wp2_with fail
                    refine sc.mono ?_
                    clear sc
                    rintro e w15 ⟨rfl, hb15⟩
                    have HB15 := Lib.hid (HB14.out.trans (hb15.mono HB14.out.size))
                    clear hb15
                    go_wp2
                    go_meet
                    exact ⟨rfl, rfl, HB15⟩
                case rest =>
                  obtain ⟨rfl, rfl, HB⟩ := hcut
                  clear SUMC HB14
                  by_cases f1 : fits64 S1
                  · by_cases f2 : fits64 S2
                    · have g1 : fv S1 = S1 := if_pos f1
                      have g2 : fv S2 = S2 := if_pos f2
                      have g3 : ev B (fn S1) = .nilIface := by unfold fn; rw [if_pos f1]; rfl
                      have g4 : ev B (fn S2) = .nilIface := by unfold fn; rw [if_pos f2]; rfl
                      have a9 := add2_any B S1 S2 wc (HE.out.below HB.out) f1 f2
                      rw [← HSP.out] at a9
                      rw [g1, g2, g3, g4]
                      clear g1 g2 g3 g4 f1 f2
                      go_wp2_with fail
                      refine a9.mono ?_
                      clear a9
                      rintro e w16 ⟨rfl, hb16⟩
                      have HB16 := Lib.hid (HB.out.trans (hb16.mono HB.out.size))
                      clear hb16 HB
                      have hfn : fn S ≤ 37 := by unfold fn; split <;> decide
                      have HFN := Lib.hid hfn
                      clear hfn
                      have a10 := num_any B w16 (HE.out.below HB16.out) (fn S) HFN.out
                      go_wp2_with fail
                      refine a10.mono ?_
                      clear a10
                      rintro e w17 ⟨rfl, hb17⟩
                      have HB17 := Lib.hid (HB16.out.trans (hb17.mono HB16.out.size))
                      clear hb17 HB16
                      have a11 := num_any B w17 (HE.out.below HB17.out) (fn S) HFN.out
                      go_wp2_with fail
                      refine a11.mono ?_
                      clear a11
                      rintro e w18 ⟨rfl, hb18⟩
                      have HB18 := Lib.hid (HB17.out.trans (hb18.mono HB17.out.size))
                      clear hb18 HB17
                      go_wp2
                      go_ret
                      exact ⟨rfl, HB18.out⟩
                    · have g3 : ev B (fn S1) = .nilIface := by unfold fn; rw [if_pos f1]; rfl
                      have g4 : ev B (fn S2) = .iface 267 (.pointer (some (B (G 9)))) := by unfold fn; rw [if_neg f2]; rfl
                      rw [g3, g4]
                      clear g3 g4 f1 f2 HSP
                      go_wp2
                      go_ret
                      exact ⟨rfl, HB.out⟩
                  · have g3 : ev B (fn S1) = .iface 267 (.pointer (some (B (G 9)))) := by unfold fn; rw [if_neg f1]; rfl
                    rw [g3]
                    clear g3 f1 HSP
                    go_wp2
                    go_ret
                    exact ⟨rfl, HB.out⟩

/-- Whatever a and b. -/
theorem sums_walk (B : Nat → Addr) (a b cut : Int) (A : Option Addr) (n c : Nat) (f : Nat → Int) (w : World) (hE : Env w B) (hfix : Calls Tryz.prog 6 #[] w fun e w' => e = .returned (.bool true) ∧ Below w.heap.size w w')
    (ha : fits64 a) (hb : fits64 b) (hc : fits64 cut) (hA : Ints w A n f) (hf : ∀ i, i < n → fits64 (f i)) (hn : n ≤ 17592186044416) (hcap : n ≤ c) :
    Calls Tryz.prog 4 #[.int .i64 a, .int .i64 b, .slice A n c, .int .i64 cut] w fun e w' => e = .returned (.bool true) ∧ Below w.heap.size w w' := by
  by_cases h : fits64 (a + b)
  · exact sums_fit B a b cut A n c f w hE hfix ha hb hc hA hf hn hcap h
  · exact sums_not B a b cut A n c f w hE hfix ha hb hc hA hf hn hcap h
end Go.Proofs.YtkndmjhiijgmbaaGreatDoor
