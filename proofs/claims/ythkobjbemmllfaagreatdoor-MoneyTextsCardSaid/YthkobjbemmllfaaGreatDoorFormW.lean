/- money.form: walked. -/
import Derived.Test.YthkobjbemmllfaaGreatDoorRepl
namespace Go.Proofs.YthkobjbemmllfaaGreatDoor
open Go.RowKit

theorem trim_plain (l : List UInt8) : Lib.trimPrefix l [45] = plainOf l := by
  cases l with
  | nil => rfl
  | cons c r =>
    rw [plainOf_cons]
    by_cases h : c = 45
    · rw [if_pos h, h]; simp [Lib.trimPrefix, Lib.hasPrefix]
    · rw [if_neg h]; simp [Lib.trimPrefix, Lib.hasPrefix]
      intro e; exact absurd e.symm h
def digC (c : UInt8) : Bool := decide (48 ≤ c.toNat) && decide (c.toNat ≤ 57)
def zC (c : UInt8) : Bool := c == 48
/-- What form answers behind its first test. -/
def formQ (l L R : List UInt8) : Bool := L.all digC && R.all digC && (!(L.all zC && R.all zC) || plainOf l == l)
/-- Its first test, not met. -/
def FormA (d : Nat) (L R : List UInt8) (p : Bool) : Prop := p = decide (0 < d) ∧ R.length = d ∧ L ≠ [] ∧ (L.length ≤ 1 ∨ L.head? ≠ some 48)
theorem digC_iff (c : UInt8) : digC c = true ↔ DigB c := by unfold digC DigB; simp
theorem formP_iff {l : List UInt8} {d : Nat} {L R : List UInt8} {p : Bool} : FormP l d L R p ↔ FormA d L R p ∧ formQ l L R = true := by
  unfold FormA formQ
  simp only [Bool.and_eq_true, List.all_eq_true, Bool.or_eq_true, Bool.not_eq_true', beq_iff_eq, digC_iff]
  constructor
  · intro h
    refine ⟨⟨h.hp, h.hR, h.hL, h.hz⟩, ⟨h.dL, h.dR⟩, ?_⟩
    rcases h.nz with ⟨c, hc, hne⟩ | h'
    · left
      rw [Bool.and_eq_false_iff]
      rcases List.mem_append.1 hc with h1 | h1
      · left; rw [List.all_eq_false]; exact ⟨c, h1, by simpa [zC] using hne⟩
      · right; rw [List.all_eq_false]; exact ⟨c, h1, by simpa [zC] using hne⟩
    · exact .inr h'
  · rintro ⟨⟨h1, h2, h3, h4⟩, ⟨h5, h6⟩, h7⟩
    refine ⟨h1, h2, h3, h4, h5, h6, ?_⟩
    rcases h7 with h7 | h7
    · left
      rw [Bool.and_eq_false_iff] at h7
      rcases h7 with h7 | h7
      · rw [List.all_eq_false] at h7
        obtain ⟨c, hc, hz⟩ := h7
        exact ⟨c, List.mem_append_left _ hc, by simpa [zC] using hz⟩
      · rw [List.all_eq_false] at h7
        obtain ⟨c, hc, hz⟩ := h7
        exact ⟨c, List.mem_append_right _ hc, by simpa [zC] using hz⟩
    · exact .inr h7

set_option maxRecDepth 100000 in
set_option maxHeartbeats 4000000 in
theorem form_off (l : List UInt8) (d : Nat) (w : World) (hl : l.length ≤ 140737488355328) (hd : d ≤ 6) (hA : ¬ FormA d (cut46 (plainOf l)).1 (cut46 (plainOf l)).2.1 (cut46 (plainOf l)).2.2) :
    Calls Tryz.prog 13 #[.string ⟨l.toArray⟩, .int .i64 d] w fun e w' => e = .returned (.bool false) ∧ Below w.heap.size w w' := by
  have a1 : Calls Tryz.prog 27 #[.string ⟨l.toArray⟩, .string ⟨#[45]⟩] w fun e w' => e = .returned (.string ⟨(plainOf l).toArray⟩) ∧ w = w' := by
    have h := Tryz.strings_TrimPrefix ⟨l.toArray⟩ ⟨#[45]⟩ w
    rw [show Lib.trimPrefix (⟨l.toArray⟩ : ByteArray).data.toList (⟨#[45]⟩ : ByteArray).data.toList = plainOf l from trim_plain l] at h
    exact h.mono fun _ _ h => ⟨h.1, h.2.symm⟩
  have hpl : (plainOf l).length ≤ l.length := by
    rcases plain_eq l with e | e
    · rw [← e]; exact Nat.le_refl _
    · rw [e]; simp [plainOf_cons]
  have a2 := cutdot_any (plainOf l) w (by omega)
  have hcl : (cut46 (plainOf l)).1.length ≤ 140737488355328 ∧ (cut46 (plainOf l)).2.1.length ≤ 140737488355328 := by
    have e := congrArg List.length (cut46_eq (plainOf l))
    rw [List.length_append] at e
    split at e
    all_goals first | (simp at e; omega) | omega
  generalize plainOf l = P at *
  generalize (cut46 P).1 = L at *
  generalize (cut46 P).2.1 = R at *
  generalize (cut46 P).2.2 = p at *
  obtain ⟨hL1, hR1⟩ := hcl
  have hLs : (⟨L.toArray⟩ : ByteArray).size = L.length := by simp [ByteArray.size]
  have hRs : (⟨R.toArray⟩ : ByteArray).size = R.length := by simp [ByteArray.size]
  unfold FormA at hA
  have hq : decide ((0 : Int) < (d : Int)) = decide (0 < d) := decide_eq_decide.2 (by omega)
  obtain ⟨q, hqq⟩ : ∃ q, q = decide (0 < d) := ⟨_, rfl⟩
  rw [← hqq] at hq hA
  have hqn := hqq.symm
  clear hqq
  by_cases c1 : p = q
  · subst c1
    have k0 : (!p == p) = false := by cases p <;> rfl
    have k0' : (p != p) = false := by cases p <;> rfl
    by_cases c2 : R.length = d
    · rw [c2] at hRs
      by_cases c3 : L = []
      · subst c3
        clear hA c2 hpl hl
        rw [show (⟨([] : List UInt8).toArray⟩ : ByteArray) = ⟨#[]⟩ from rfl] at a2
        clear hLs
        generalize (⟨R.toArray⟩ : ByteArray) = RS at *
        generalize (⟨l.toArray⟩ : ByteArray) = S at *
        generalize (⟨P.toArray⟩ : ByteArray) = PS at *
        go_enter Tryz.func13, Tryz.ntmps13
        go_wp2_with fail
        refine a1.mono ?_
        clear a1
        rintro e w' ⟨rfl, rfl⟩
        go_wp2_with fail
        refine a2.mono ?_
        clear a2
        rintro e w' ⟨rfl, kk, rfl⟩
        go_wp2
        go_ret
        exact ⟨rfl, below_drewN (Below.refl _ _) _⟩
      · have c4 : 1 < L.length ∧ L.head? = some 48 := by
          refine ⟨?_, ?_⟩
          · rcases Nat.lt_or_ge 1 L.length with h | h
            · exact h
            · exact absurd ⟨rfl, c2, c3, .inl h⟩ hA
          · exact Classical.byContradiction fun h => hA ⟨rfl, c2, c3, .inr h⟩
        obtain ⟨c4, c5⟩ := c4
        have k3 : decide (1 < L.length) = true := decide_eq_true c4
        have k3' : decide ((1 : Int) < (L.length : Int)) = true := decide_eq_true (by omega)
        have k4 : (⟨L.toArray⟩ : ByteArray).toList.isEmpty = false := by
          rw [ByteArray.toList_eq]
          simpa using c3
        have hL0 : 0 < (⟨L.toArray⟩ : ByteArray).size := by omega
        have k5 : (⟨L.toArray⟩ : ByteArray)[0]'hL0 = 48 := by
          cases L with
          | nil => exact absurd rfl c3
          | cons c r =>
            have hc : c = 48 := by simpa using c5
            exact hc
        clear hA c2 c3 c4 c5 hpl hl
        generalize (⟨L.toArray⟩ : ByteArray) = LS at *
        generalize (⟨R.toArray⟩ : ByteArray) = RS at *
        generalize (⟨l.toArray⟩ : ByteArray) = S at *
        generalize (⟨P.toArray⟩ : ByteArray) = PS at *
        go_enter Tryz.func13, Tryz.ntmps13
        go_wp2_with fail
        refine a1.mono ?_
        clear a1
        rintro e w' ⟨rfl, rfl⟩
        go_wp2_with fail
        refine a2.mono ?_
        clear a2
        rintro e w' ⟨rfl, kk, rfl⟩
        go_wp2
        go_ret
        exact ⟨rfl, below_drewN (Below.refl _ _) _⟩
    · have k2 : ((R.length : Int) != (d : Int)) = true := by simp; omega
      clear hA c2 hpl hl
      generalize (⟨L.toArray⟩ : ByteArray) = LS at *
      generalize (⟨R.toArray⟩ : ByteArray) = RS at *
      generalize (⟨l.toArray⟩ : ByteArray) = S at *
      generalize (⟨P.toArray⟩ : ByteArray) = PS at *
      go_enter Tryz.func13, Tryz.ntmps13
      go_wp2_with fail
      refine a1.mono ?_
      clear a1
      rintro e w' ⟨rfl, rfl⟩
      go_wp2_with fail
      refine a2.mono ?_
      clear a2
      rintro e w' ⟨rfl, kk, rfl⟩
      go_wp2
      go_ret
      exact ⟨rfl, below_drewN (Below.refl _ _) _⟩
  · have k0 : (!p == q) = true := by cases p <;> cases q <;> first | rfl | exact absurd rfl c1
    have k0' : (p != q) = true := by cases p <;> cases q <;> first | rfl | exact absurd rfl c1
    clear hA c1 hpl hl
    generalize (⟨L.toArray⟩ : ByteArray) = LS at *
    generalize (⟨R.toArray⟩ : ByteArray) = RS at *
    generalize (⟨l.toArray⟩ : ByteArray) = S at *
    generalize (⟨P.toArray⟩ : ByteArray) = PS at *
    go_enter Tryz.func13, Tryz.ntmps13
    go_wp2_with fail
    refine a1.mono ?_
    clear a1
    rintro e w' ⟨rfl, rfl⟩
    go_wp2_with fail
    refine a2.mono ?_
    clear a2
    rintro e w' ⟨rfl, kk, rfl⟩
    go_wp2
    go_ret
    exact ⟨rfl, below_drewN (Below.refl _ _) _⟩
/-- form, its first test not met. -/
theorem ba_at {s : ByteArray} {l : List UInt8} (h : s.data.toList = l) (i : Nat) (h1 : i < l.length) (h2 : i < s.size) : s[i]'h2 = l[i] := by subst h; rfl
theorem ret_bool {a b : Bool} (h : b = a) : Ending.returned (.bool a) = .returned (.bool b) := by rw [h]
theorem zC_eq (c : UInt8) : ((c.toNat : Int) == 48) = zC c := by
  unfold zC
  rw [Bool.eq_iff_iff, beq_iff_eq, beq_iff_eq]
  constructor
  · intro h
    apply UInt8.toNat_inj.1
    show c.toNat = 48
    omega
  · intro h; rw [h]; rfl
theorem formQ_no {l L R : List UInt8} (h : (∃ c, c ∈ L ∧ digC c = false) ∨ ∃ c, c ∈ R ∧ digC c = false) : formQ l L R = false := by
  unfold formQ
  rcases h with ⟨c, hc, hd⟩ | ⟨c, hc, hd⟩
  · have : L.all digC = false := by rw [List.all_eq_false]; exact ⟨c, hc, by rw [hd]; decide⟩
    rw [this]; rfl
  · have : R.all digC = false := by rw [List.all_eq_false]; exact ⟨c, hc, by rw [hd]; decide⟩
    rw [this]; simp
theorem formQ_yes {l L R : List UInt8} (h1 : L.all digC = true) (h2 : R.all digC = true) : formQ l L R = (!(L.all zC && R.all zC) || plainOf l == l) := by
  unfold formQ
  rw [h1, h2]; rfl
set_option maxRecDepth 100000 in
set_option maxHeartbeats 8000000 in
theorem form_on (l : List UInt8) (d : Nat) (w : World) (hl : l.length ≤ 140737488355328) (hd : d ≤ 6) (hA : FormA d (cut46 (plainOf l)).1 (cut46 (plainOf l)).2.1 (cut46 (plainOf l)).2.2) :
    Calls Tryz.prog 13 #[.string ⟨l.toArray⟩, .int .i64 d] w fun e w' => e = .returned (.bool (formQ l (cut46 (plainOf l)).1 (cut46 (plainOf l)).2.1)) ∧ Below w.heap.size w w' := by
  have a1 : Calls Tryz.prog 27 #[.string ⟨l.toArray⟩, .string ⟨#[45]⟩] w fun e w' => e = .returned (.string ⟨(plainOf l).toArray⟩) ∧ w = w' := by
    have h := Tryz.strings_TrimPrefix ⟨l.toArray⟩ ⟨#[45]⟩ w
    rw [show Lib.trimPrefix (⟨l.toArray⟩ : ByteArray).data.toList (⟨#[45]⟩ : ByteArray).data.toList = plainOf l from trim_plain l] at h
    exact h.mono fun _ _ h => ⟨h.1, h.2.symm⟩
  have hpl : (plainOf l).length ≤ l.length := by
    rcases plain_eq l with e | e
    · rw [← e]; exact Nat.le_refl _
    · rw [e]; simp [plainOf_cons]
  have a2 := cutdot_any (plainOf l) w (by omega)
  have hcl : (cut46 (plainOf l)).1.length ≤ 140737488355328 ∧ (cut46 (plainOf l)).2.1.length ≤ 140737488355328 := by
    have e := congrArg List.length (cut46_eq (plainOf l))
    rw [List.length_append] at e
    split at e
    all_goals first | (simp at e; omega) | omega
  have HEQ := Lib.hid (show ((⟨(plainOf l).toArray⟩ : ByteArray).toList == (⟨l.toArray⟩ : ByteArray).toList) = (plainOf l == l) by rw [ByteArray.toList_eq, ByteArray.toList_eq])
  generalize (cut46 (plainOf l)).1 = L at *
  generalize (cut46 (plainOf l)).2.1 = R at *
  generalize (cut46 (plainOf l)).2.2 = p at *
  obtain ⟨hL1, hR1⟩ := hcl
  have hLs : (⟨L.toArray⟩ : ByteArray).size = L.length := by simp [ByteArray.size]
  have hRs : (⟨R.toArray⟩ : ByteArray).size = R.length := by simp [ByteArray.size]
  obtain ⟨c1, c2, c3, c4⟩ := hA
  have hq : decide ((0 : Int) < (d : Int)) = p := by rw [c1]; exact decide_eq_decide.2 (by omega)
  have hqn : decide (0 < d) = p := c1.symm
  have k0 : (!p == p) = false := by cases p <;> rfl
  have k0' : (p != p) = false := by cases p <;> rfl
  have k4 : (⟨L.toArray⟩ : ByteArray).toList.isEmpty = false := by
    rw [ByteArray.toList_eq]
    simpa using c3
  have hL0 : 0 < (⟨L.toArray⟩ : ByteArray).size := by rw [hLs]; exact List.length_pos_iff.2 c3
  obtain ⟨c0, hc0⟩ : ∃ c, (⟨L.toArray⟩ : ByteArray)[0]'hL0 = c := ⟨_, rfl⟩
  have hz0 : 1 < L.length → ((c0.toNat : Int) == 48) = false := fun h => by
    rcases c4 with h' | h'
    · omega
    · rw [zC_eq]
      cases hz : zC c0 with
      | false => rfl
      | true =>
        exfalso
        apply h'
        cases L with
        | nil => exact absurd rfl c3
        | cons x r =>
          have hx : x = c0 := hc0
          have h48 : c0 = 48 := by simpa [zC] using hz
          show some x = some 48
          rw [hx, h48]
  have HGL := Lib.hid (show (⟨L.toArray⟩ : ByteArray).data.toList = L from rfl)
  have HGR := Lib.hid (show (⟨R.toArray⟩ : ByteArray).data.toList = R from rfl)
  have k2 : ((R.length : Int) != (d : Int)) = false := by simp; omega
  clear c1 c2 c3 c4 hpl hl
  generalize (⟨L.toArray⟩ : ByteArray) = LS at *
  generalize (⟨R.toArray⟩ : ByteArray) = RS at *
  generalize (⟨l.toArray⟩ : ByteArray) = S at *
  generalize (⟨(plainOf l).toArray⟩ : ByteArray) = PS at *
  go_enter Tryz.func13, Tryz.ntmps13
  go_wp2_with fail
  refine a1.mono ?_
  clear a1
  rintro e w' ⟨rfl, rfl⟩
  go_wp2_with fail
  refine a2.mono ?_
  clear a2
  rintro e w' ⟨rfl, kk, rfl⟩
  have HBW := Lib.hid (show Below w.heap.size w ((w.drewN kk).alloc (.cells #[.string LS, .string RS] 9)) from (below_drewN (Below.refl w.heap.size w) kk).alloc (Nat.le_refl _) _)
  generalize w.drewN kk = wk at *
  go_upto_region 3 with fail
  go_cut [44] from 21 to 44 (fun v wx => v = .bool false ∧ wk = wx)
  case first =>
    clear HGL HGR HEQ
    rcases Nat.lt_or_ge 1 L.length with h | h
    · have k3 : decide (1 < L.length) = true := decide_eq_true h
      have k3' : decide ((1 : Int) < (L.length : Int)) = true := decide_eq_true (by omega)
      have k5 := hz0 h
      clear hz0 h
      go_wp2
      go_meet
      exact ⟨rfl, rfl⟩
    · have k3 : decide (1 < L.length) = false := decide_eq_false (by omega)
      have k3' : decide ((1 : Int) < (L.length : Int)) = false := decide_eq_false (by omega)
      clear hz0 h
      go_wp2
      go_meet
      exact ⟨rfl, rfl⟩
  case rest =>
    obtain ⟨rfl, rfl⟩ := hcut
    clear hz0 hc0 k4 k0 k0' hq hqn k2
    have z0 : (wk.alloc (.cells #[.string LS, .string RS] 9)).cell? ⟨wk.heap.size, 0, none⟩ = some (.string LS) := by simp
    have z1 : (wk.alloc (.cells #[.string LS, .string RS] 9)).cell? ⟨wk.heap.size, 1, none⟩ = some (.string RS) := by simp
    go_wp2_with fail
    generalize wk.alloc (.cells #[.string LS, .string RS] 9) = wB at *
    refine wp_loop_rounds 3 ?_
    rw [rounds_succ]
    go_wp2_with fail
    go_loop [55, 9, 12] (fun vi vz _ => ∃ i : Nat, vi = .int .i64 i ∧ i ≤ L.length ∧ vz = .bool ((L.take i).all zC) ∧ Hid ((L.take i).all digC = true)) (fun vi _ _ => L.length - (intOf vi).toNat)
    case atStart => exact ⟨0, rfl, Nat.zero_le _, by simp, Lib.hid (by simp)⟩
    case round =>
      obtain ⟨i, rfl, hi, rfl, hdg⟩ := hrel
      rcases Nat.lt_or_ge i L.length with h | h
      · have hiS : i < LS.size := by omega
        obtain ⟨ch, hch⟩ : ∃ c, c = LS[i]'hiS := ⟨_, rfl⟩
        have hgt : L.take (i + 1) = L.take i ++ [ch] := by
          rw [List.take_succ_eq_append_getElem h, hch]
          exact congrArg (fun c => L.take i ++ [c]) (ba_at HGL.out i h hiS).symm
        have HGT := Lib.hid hgt
        have HCH := hch.symm
        have hiI : (i : Int) < L.length := by omega
        have HME := Lib.hid (show ch ∈ L by rw [hch, ba_at HGL.out i h hiS]; exact List.getElem_mem _)
        clear hgt hch
        by_cases n1 : ch.toNat < 48
        · have t1 : decide ((ch.toNat : Int) < 48) = true := decide_eq_true (by omega)
          have HN := Lib.hid (show digC ch = false by unfold digC; simp; omega)
          clear n1
          go_wp2
          go_ret
          exact ⟨ret_bool (formQ_no (.inl ⟨ch, HME.out, HN.out⟩)), HBW.out⟩
        · have t1 : decide ((ch.toNat : Int) < 48) = false := decide_eq_false (by omega)
          by_cases n2 : 57 < ch.toNat
          · have t2 : decide (57 < (ch.toNat : Int)) = true := decide_eq_true (by omega)
            have HN := Lib.hid (show digC ch = false by unfold digC; simp; omega)
            clear n1 n2
            go_wp2
            go_ret
            exact ⟨ret_bool (formQ_no (.inl ⟨ch, HME.out, HN.out⟩)), HBW.out⟩
          · have t2 : decide (57 < (ch.toNat : Int)) = false := decide_eq_false (by omega)
            have HDG := Lib.hid (show (L.take (i + 1)).all digC = true by rw [HGT.out, List.all_append, hdg.out]; unfold digC; simp; omega)
            have t3 : ((ch.toNat : Int) == 48) = zC ch := zC_eq ch
            have HZ := Lib.hid (show ((L.take (i + 1)).all zC) = (((L.take i).all zC) && zC ch) by rw [HGT.out, List.all_append]; simp)
            clear n1 n2 hdg
            generalize ((L.take i).all zC) = zz at *
            generalize zC ch = zc at *
            cases zz with
            | true =>
              go_wp2
              go_round
              case rel => exact ⟨i + 1, by go_num, h, by rw [HZ.out]; rfl, HDG⟩
              case measure => simp [intOf]; omega
            | false =>
              go_wp2
              go_round
              case rel => exact ⟨i + 1, by go_num, h, by rw [HZ.out]; rfl, HDG⟩
              case measure => simp [intOf]; omega
      · obtain rfl : i = L.length := by omega
        rw [List.take_length] at hdg ⊢
        have HDL := hdg
        clear hdg h hi
        go_wp2_with fail
        rw [rounds_succ]
        go_wp2_with fail
        go_loop [55, 9, 12] (fun vi vz _ => ∃ i : Nat, vi = .int .i64 i ∧ i ≤ R.length ∧ vz = .bool (L.all zC && (R.take i).all zC) ∧ Hid ((R.take i).all digC = true)) (fun vi _ _ => R.length - (intOf vi).toNat)
        case atStart => exact ⟨0, rfl, Nat.zero_le _, by simp, Lib.hid (by simp)⟩
        case round =>
          obtain ⟨i, rfl, hi, rfl, hdg⟩ := hrel
          rcases Nat.lt_or_ge i R.length with h | h
          · have hiS : i < RS.size := by omega
            obtain ⟨ch, hch⟩ : ∃ c, c = RS[i]'hiS := ⟨_, rfl⟩
            have hgt : R.take (i + 1) = R.take i ++ [ch] := by
              rw [List.take_succ_eq_append_getElem h, hch]
              exact congrArg (fun c => R.take i ++ [c]) (ba_at HGR.out i h hiS).symm
            have HGT := Lib.hid hgt
            have HCH := hch.symm
            have hiI : (i : Int) < R.length := by omega
            have HME := Lib.hid (show ch ∈ R by rw [hch, ba_at HGR.out i h hiS]; exact List.getElem_mem _)
            clear hgt hch
            by_cases n1 : ch.toNat < 48
            · have t1 : decide ((ch.toNat : Int) < 48) = true := decide_eq_true (by omega)
              have HN := Lib.hid (show digC ch = false by unfold digC; simp; omega)
              clear n1
              go_wp2
              go_ret
              exact ⟨ret_bool (formQ_no (.inr ⟨ch, HME.out, HN.out⟩)), HBW.out⟩
            · have t1 : decide ((ch.toNat : Int) < 48) = false := decide_eq_false (by omega)
              by_cases n2 : 57 < ch.toNat
              · have t2 : decide (57 < (ch.toNat : Int)) = true := decide_eq_true (by omega)
                have HN := Lib.hid (show digC ch = false by unfold digC; simp; omega)
                clear n1 n2
                go_wp2
                go_ret
                exact ⟨ret_bool (formQ_no (.inr ⟨ch, HME.out, HN.out⟩)), HBW.out⟩
              · have t2 : decide (57 < (ch.toNat : Int)) = false := decide_eq_false (by omega)
                have HDG := Lib.hid (show (R.take (i + 1)).all digC = true by rw [HGT.out, List.all_append, hdg.out]; unfold digC; simp; omega)
                have t3 : ((ch.toNat : Int) == 48) = zC ch := zC_eq ch
                have HZ := Lib.hid (show (L.all zC && (R.take (i + 1)).all zC) = ((L.all zC && (R.take i).all zC) && zC ch) by rw [HGT.out, List.all_append]; simp; try rw [Bool.and_assoc])
                clear n1 n2 hdg
                generalize (L.all zC && (R.take i).all zC) = zz at *
                generalize zC ch = zc at *
                cases zz with
                | true =>
                  go_wp2
                  go_round
                  case rel => exact ⟨i + 1, by go_num, h, by rw [HZ.out]; rfl, HDG⟩
                  case measure => simp [intOf]; omega
                | false =>
                  go_wp2
                  go_round
                  case rel => exact ⟨i + 1, by go_num, h, by rw [HZ.out]; rfl, HDG⟩
                  case measure => simp [intOf]; omega
          · obtain rfl : i = R.length := by omega
            rw [List.take_length] at hdg ⊢
            have HQ := Lib.hid (formQ_yes (l := l) HDL.out hdg.out)
            clear hdg h hi
            generalize (L.all zC && R.all zC) = zz at *
            go_wp2_with fail
            rw [rounds_succ]
            cases zz with
            | false =>
              go_wp2
              go_ret
              exact ⟨ret_bool (by rw [HQ.out]; rfl), HBW.out⟩
            | true =>
              go_wp2
              go_ret
              exact ⟨ret_bool (by rw [HQ.out, HEQ.out]; rfl), HBW.out⟩
end Go.Proofs.YthkobjbemmllfaaGreatDoor
