/- remitlaw04.MoneyTexts: walked, over the contract of fixed. -/
import Derived.Test.YthkobjbemmllfaaGreatDoorParseB
import Derived.Test.YthkobjbemmllfaaGreatDoorTextsP
import Derived.Lib.IndexBytes
import Derived.Lib.AppendIntMem
namespace Go.Proofs.YthkobjbemmllfaaGreatDoor
open Go.RowKit
def In64 (a : Int) : Prop := -9223372036854775808 ≤ a ∧ a ≤ 9223372036854775807
theorem text_all (a : Int) (d : Nat) (h : In64 a) (hd : d ≤ 6) (w : World) (htab : Tab w) :
    Calls Tryz.prog 5 #[.int .i64 a, .int .i64 d] w fun e w' => e = .returned (.string ⟨(mtext a d).toArray⟩) ∧ Below w.heap.size w w' := by
  obtain ⟨h1, h2⟩ := h
  by_cases h0 : 0 ≤ a
  · obtain ⟨n, rfl⟩ := Int.eq_ofNat_of_zero_le h0
    exact text_nonneg n d (by omega) hd w htab
  · obtain ⟨n, hn⟩ := Int.eq_ofNat_of_zero_le (show 0 ≤ -a by omega)
    obtain rfl : a = -(n : Int) := by omega
    exact text_neg n d ⟨by omega, by omega⟩ hd w htab
theorem parse_fit {T : List UInt8} {neg : Bool} (hT : T ≠ []) (hd : ∀ c ∈ T, DigB c) : Lib.parseIntB 64 ((if neg then [45] else []) ++ T) = .range ∨ ∃ v, Lib.parseIntB 64 ((if neg then [45] else []) ++ T) = .ok v ∧ In64 v := by
  rw [parse_sign hT hd]
  rcases parseU_dig hT hd with hp | ⟨u, hp⟩
  · rw [hp]; cases neg <;> exact .inl rfl
  · rw [hp]
    cases neg with
    | true =>
      rw [if_pos rfl]
      by_cases h : 9223372036854775808 < u
      · left; exact if_pos h
      · right; exact ⟨-(u : Int), if_neg h, by unfold In64; omega⟩
    | false =>
      rw [if_neg (by decide)]
      by_cases h : 9223372036854775808 ≤ u
      · left; exact if_pos h
      · right; exact ⟨(u : Int), if_neg h, by unfold In64; omega⟩
/-- What Parse answers, whatever the text. -/
theorem read_any (B : Nat → Addr) (l : List UInt8) (d : Nat) (hl : l.length ≤ 140737488355328) (hd : d ≤ 6) :
    ∃ v n, ((n = 0 ∧ mtext v d = l ∧ In64 v) ∨ (v = 0 ∧ (n = 7 ∨ n = 10))) ∧ ∀ w, Env w B → SR w → Calls Tryz.prog 6 #[.string ⟨l.toArray⟩, .int .i64 d] w fun e w' => e = .returned (.tuple #[.int .i64 v, ev B n]) ∧ Below w.heap.size w w' := by
  rcases Classical.em (∃ neg L R, Form l d neg L R) with ⟨neg, L, R, hF⟩ | hF
  · rcases parse_fit (neg := neg) hF.digits.1 hF.digits.2 with h | ⟨v, h, hv⟩
    · exact ⟨0, 10, .inr ⟨rfl, .inr rfl⟩, fun w hE hS => parse_over B l d w hE hS hl hd hF h⟩
    · exact ⟨v, 0, .inl ⟨rfl, text_of_read hF h, hv⟩, fun w _ _ => parse_good l d w hl hd hF v h⟩
  · exact ⟨0, 7, .inr ⟨rfl, .inl rfl⟩, fun w hE _ => parse_form B l d w hE hl hd hF⟩
/-- What Text writes Parse reads. -/
theorem back_any (a : Int) (d : Nat) (ha : In64 a) (hd : d ≤ 6) (w : World) :
    Calls Tryz.prog 6 #[.string ⟨(mtext a d).toArray⟩, .int .i64 d] w fun e w' => e = .returned (.tuple #[.int .i64 a, .nilIface]) ∧ Below w.heap.size w w' := by
  obtain ⟨L, R, hF, hv⟩ := form_of_text a d
  have hlen := mtext_len (a := a) hd (decDigits_len (by unfold In64 at ha; omega))
  exact parse_good _ d w (by omega) hd hF a (read_text ha.1 ha.2 hF hv)
theorem str_eq (x y : List UInt8) : ((⟨x.toArray⟩ : ByteArray).toList == (⟨y.toArray⟩ : ByteArray).toList) = (x == y) := by
  rw [Lib.toList_data, Lib.toList_data]
theorem text_eq (a b : Int) (d : Nat) : ((⟨(mtext b d).toArray⟩ : ByteArray).toList == (⟨(mtext a d).toArray⟩ : ByteArray).toList) = (a == b) := by
  rw [str_eq]
  by_cases h : a = b
  · subst h; rw [beq_self_eq_true, beq_self_eq_true]
  · have h' : mtext b d ≠ mtext a d := fun e => h (mtext_inj e).symm
    rw [beq_eq_false_iff_ne.2 h', beq_eq_false_iff_ne.2 h]
end Go.Proofs.YthkobjbemmllfaaGreatDoor
namespace Go.Proofs.YthkobjbemmllfaaGreatDoor
open Go.RowKit
theorem tab_under {w w' : World} (h : Tab w) (hb : Below w.heap.size w w') : Tab w' := Lib.tabBelow_of_tabIs h w' hb
set_option maxRecDepth 100000 in
theorem ne_nilP (w : World) (p : Addr) : (binOp .neq 25 (.iface 162 (.pointer (some p))) .nilIface).run Tryz.prog w = .ok (.bool true) w := by kernel_rfl
set_option maxRecDepth 100000 in
set_option maxHeartbeats 4000000 in
theorem texts_in (B : Nat → Addr) (a b : Int) (d : Nat) (l : List UInt8) (w : World) (hE : Env w B) (htab : Tab w) (hS : SR w) (hfix : Calls Tryz.prog 4 #[] w fun e w' => e = .returned (.bool true) ∧ Below w.heap.size w w')
    (ha : In64 a) (hb : In64 b) (hl : l.length ≤ 140737488355328) (hd : d ≤ 6) :
    Calls Tryz.prog 3 #[.int .i64 a, .int .i64 b, .int .i64 d, .string ⟨l.toArray⟩] w fun e w' => e = .returned (.bool true) ∧ Below w.heap.size w w' := by
  have HE := Lib.hid hE
  have HT := Lib.hid htab
  have HS := Lib.hid hS
  have d1 : decide ((d : Int) < 0) = false := decide_eq_false (by omega)
  have d2 : decide (6 < (d : Int)) = false := decide_eq_false (by omega)
  have A1 := Lib.hid (text_all a d ha hd)
  have A2 := Lib.hid (text_all b d hb hd)
  have A3 := Lib.hid (back_any a d ha hd)
  obtain ⟨v, n, hvn, hR⟩ := read_any B l d hl hd
  have A4 := Lib.hid hR
  have A5 := Lib.hid fun hv => text_all v d hv hd
  have hlen := mtext_len (a := a) hd (decDigits_len (by unfold In64 at ha; omega))
  have hsz : (⟨(mtext a d).toArray⟩ : ByteArray).size = (mtext a d).length := rfl
  have t1 : decide (28 < ((⟨(mtext a d).toArray⟩ : ByteArray).size : Int)) = false := decide_eq_false (by rw [hsz]; omega)
  have t2 := text_eq a b d
  have HN := Lib.hid (num_any B)
  have HV := Lib.hid (show (n = 0 ∧ (⟨(mtext v d).toArray⟩ : ByteArray) = ⟨l.toArray⟩ ∧ In64 v) ∨ (v = 0 ∧ (n = 7 ∨ n = 10)) from by
    rcases hvn with ⟨h1, h2, h3⟩ | h
    · exact .inl ⟨h1, by rw [h2], h3⟩
    · exact .inr h)
  clear hE htab hS hR hvn hlen hsz ha hb hd hl
  generalize (⟨(mtext a d).toArray⟩ : ByteArray) = S1 at *
  generalize (⟨(mtext b d).toArray⟩ : ByteArray) = S2 at *
  generalize (⟨(mtext v d).toArray⟩ : ByteArray) = S3 at *
  generalize (⟨l.toArray⟩ : ByteArray) = S0 at *
  have t3 : (a == b) = (S2.toList == S1.toList) := t2.symm
  clear t2
  go_enter Tryz.func3, Tryz.ntmps3
  go_wp2_with fail
  refine hfix.mono ?_
  clear hfix
  rintro e w1 ⟨rfl, hb1⟩
  have HB1 := Lib.hid hb1
  clear hb1
  go_wp2_with fail
  refine (A1.out w1 (tab_under HT.out HB1.out)).mono ?_
  clear A1
  rintro e w2 ⟨rfl, hb2⟩
  have HB2 := Lib.hid (HB1.out.trans (hb2.mono HB1.out.size))
  clear hb2 HB1
  go_wp2_with fail
  refine (A3.out w2).mono ?_
  clear A3
  rintro e w3 ⟨rfl, hb3⟩
  have HB3 := Lib.hid (HB2.out.trans (hb3.mono HB2.out.size))
  clear hb3 HB2
  go_wp2_with fail
  refine (A2.out w3 (tab_under HT.out HB3.out)).mono ?_
  clear A2
  rintro e w4 ⟨rfl, hb4⟩
  have HB4 := Lib.hid (HB3.out.trans (hb4.mono HB3.out.size))
  clear hb4 HB3
  go_wp2_with fail
  refine (A4.out w4 (HE.out.below HB4.out) (HS.out.below HB4.out)).mono ?_
  clear A4
  rintro e w5 ⟨rfl, hb5⟩
  have HB5 := Lib.hid (HB4.out.trans (hb5.mono HB4.out.size))
  clear hb5 HB4
  have a7 := HN.out w5 (HE.out.below HB5.out)
  clear HN
  rcases HV.out with ⟨rfl, h2, h3⟩ | ⟨rfl, rfl | rfl⟩
  · subst h2
    have a6 := A5.out h3 w5 (tab_under HT.out HB5.out)
    have e0 : ev B 0 = .nilIface := rfl
    rw [e0]
    clear HV A5 h3 a7 e0
    go_wp2_with fail
    refine a6.mono ?_
    clear a6
    rintro e w6 ⟨rfl, hb6⟩
    have HB6 := Lib.hid (HB5.out.trans (hb6.mono HB5.out.size))
    clear hb6 HB5
    go_wp2
    go_ret
    exact ⟨rfl, HB6.out⟩
  · have a8 := a7 7 (by decide)
    have e7 : ev B 7 = .iface 162 (.pointer (some (B 1))) := rfl
    rw [e7] at a8 ⊢
    have n1 := ne_nilP w5 (B 1)
    clear HV A5 a7 e7
    go_wp2_with fail
    refine a8.mono ?_
    clear a8
    rintro e w6 ⟨rfl, hb6⟩
    have HB6 := Lib.hid (HB5.out.trans (hb6.mono HB5.out.size))
    clear hb6 HB5
    go_wp2
    go_ret
    exact ⟨rfl, HB6.out⟩
  · have a8 := a7 10 (by decide)
    have a9 := Lib.hid fun w6 (h : Env w6 B) => num_any B w6 h 10 (by decide)
    have e7 : ev B 10 = .iface 162 (.pointer (some (B 2))) := rfl
    rw [e7] at a8 a9 ⊢
    have n1 := ne_nilP w5 (B 2)
    clear HV A5 a7 e7
    go_wp2_with fail
    refine a8.mono ?_
    clear a8
    rintro e w6 ⟨rfl, hb6⟩
    have HB6 := Lib.hid (HB5.out.trans (hb6.mono HB5.out.size))
    clear hb6 HB5
    go_wp2_with fail
    refine (a9.out w6 (HE.out.below HB6.out)).mono ?_
    clear a9
    rintro e w7 ⟨rfl, hb7⟩
    have HB7 := Lib.hid (HB6.out.trans (hb7.mono HB6.out.size))
    clear hb7 HB6
    go_wp2
    go_ret
    exact ⟨rfl, HB7.out⟩
end Go.Proofs.YthkobjbemmllfaaGreatDoor
namespace Go.Proofs.YthkobjbemmllfaaGreatDoor
open Go.RowKit
set_option maxRecDepth 100000 in
set_option maxHeartbeats 4000000 in
theorem texts_out (B : Nat → Addr) (a b d : Int) (S : ByteArray) (w : World) (hE : Env w B) (hfix : Calls Tryz.prog 4 #[] w fun e w' => e = .returned (.bool true) ∧ Below w.heap.size w w')
    (hd : d < 0 ∨ 6 < d) :
    Calls Tryz.prog 3 #[.int .i64 a, .int .i64 b, .int .i64 d, .string S] w fun e w' => e = .returned (.bool true) ∧ Below w.heap.size w w' := by
  have HE := Lib.hid hE
  have d12 : decide (d < 0) = true ∨ decide (d < 0) = false ∧ decide (6 < d) = true := by
    rcases hd with h | h
    · exact .inl (decide_eq_true h)
    · exact .inr ⟨decide_eq_false (by omega), decide_eq_true h⟩
  have A1 := Lib.hid fun w1 => text_out a d w1 hd
  have A2 := Lib.hid fun (S : ByteArray) (w1 : World) (h : Env w1 B) => parse_out B S d w1 h hd
  have A3 := Lib.hid fun (w1 : World) (h : Env w1 B) => num_any B w1 h 6 (by decide)
  have e6 : ev B 6 = .iface 162 (.pointer (some (B 0))) := rfl
  rw [e6] at A2 A3
  clear hE hd e6
  go_enter Tryz.func3, Tryz.ntmps3
  go_wp2_with fail
  refine hfix.mono ?_
  clear hfix
  rintro e w1 ⟨rfl, hb1⟩
  have HB1 := Lib.hid hb1
  clear hb1
  go_wp2_with fail
  refine (A1.out w1).mono ?_
  clear A1
  rintro e w2 ⟨rfl, rfl⟩
  go_wp2_with fail
  refine (A2.out _ w1 (HE.out.below HB1.out)).mono ?_
  rintro e w3 ⟨rfl, hb3⟩
  have HB3 := Lib.hid (HB1.out.trans (hb3.mono HB1.out.size))
  clear hb3 HB1
  rcases d12 with d1 | ⟨d1, d2⟩
  · go_wp2_with fail
    refine (A2.out _ w3 (HE.out.below HB3.out)).mono ?_
    clear A2
    rintro e w4 ⟨rfl, hb4⟩
    have HB4 := Lib.hid (HB3.out.trans (hb4.mono HB3.out.size))
    clear hb4 HB3
    go_wp2_with fail
    refine (A3.out w4 (HE.out.below HB4.out)).mono ?_
    rintro e w5 ⟨rfl, hb5⟩
    have HB5 := Lib.hid (HB4.out.trans (hb5.mono HB4.out.size))
    clear hb5 HB4
    go_wp2_with fail
    refine (A3.out w5 (HE.out.below HB5.out)).mono ?_
    clear A3
    rintro e w6 ⟨rfl, hb6⟩
    have HB6 := Lib.hid (HB5.out.trans (hb6.mono HB5.out.size))
    clear hb6 HB5
    go_wp2
    go_ret
    exact ⟨rfl, HB6.out⟩
  · go_wp2_with fail
    refine (A2.out _ w3 (HE.out.below HB3.out)).mono ?_
    clear A2
    rintro e w4 ⟨rfl, hb4⟩
    have HB4 := Lib.hid (HB3.out.trans (hb4.mono HB3.out.size))
    clear hb4 HB3
    go_wp2_with fail
    refine (A3.out w4 (HE.out.below HB4.out)).mono ?_
    rintro e w5 ⟨rfl, hb5⟩
    have HB5 := Lib.hid (HB4.out.trans (hb5.mono HB4.out.size))
    clear hb5 HB4
    go_wp2_with fail
    refine (A3.out w5 (HE.out.below HB5.out)).mono ?_
    clear A3
    rintro e w6 ⟨rfl, hb6⟩
    have HB6 := Lib.hid (HB5.out.trans (hb6.mono HB5.out.size))
    clear hb6 HB5
    go_wp2
    go_ret
    exact ⟨rfl, HB6.out⟩
theorem texts_walk (B : Nat → Addr) (a b d : Int) (S : ByteArray) (w : World) (hE : Env w B) (htab : Tab w) (hS : SR w) (hfix : Calls Tryz.prog 4 #[] w fun e w' => e = .returned (.bool true) ∧ Below w.heap.size w w')
    (ha : In64 a) (hb : In64 b) (hl : S.size ≤ 140737488355328) :
    Calls Tryz.prog 3 #[.int .i64 a, .int .i64 b, .int .i64 d, .string S] w fun e w' => e = .returned (.bool true) ∧ Below w.heap.size w w' := by
  by_cases hd : d < 0 ∨ 6 < d
  · exact texts_out B a b d S w hE hfix hd
  · obtain ⟨n, rfl⟩ := Int.eq_ofNat_of_zero_le (show 0 ≤ d by omega)
    have h := texts_in B a b n S.data.toList w hE htab hS hfix ha hb (by have : S.data.toList.length = S.size := rfl; omega) (by omega)
    exact h
end Go.Proofs.YthkobjbemmllfaaGreatDoor
