/- remitref16.id and account: walked. -/
import Derived.Test.YtodekiimkbejnaaGreatDoorRefs
import Derived.Test.YtodekiimkbejnaaGreatDoorPost2
namespace Go.Proofs.YtodekiimkbejnaaGreatDoor
open Go.RowKit

theorem ext01 {s : ByteArray} (h : 0 < s.size) : (s.extract 0 1).toList = [s[0]] := by
  rw [ByteArray.toList_eq, ByteArray.data_extract]
  obtain ⟨⟨l⟩⟩ := s
  cases l with
  | nil => simp [ByteArray.size] at h
  | cons a r => simp; rfl
theorem mrk_at {s : ByteArray} (h : 0 < s.size) : mrk s = ((s[0].toNat : Int) == 35) := by
  unfold mrk
  rw [ext01 h, decide_eq_true (by omega), Bool.true_and]
  rw [Bool.eq_iff_iff]
  simp only [beq_iff_eq, List.cons.injEq, and_true]
  constructor
  · intro e; rw [e]; rfl
  · intro e
    have : s[0].toNat = 35 := by omega
    exact UInt8.toNat_inj.1 this

set_option maxRecDepth 100000 in
set_option maxHeartbeats 1000000 in
theorem refPid_any (s : ByteArray) (w : World) (hs : s.size ≤ 9223372036854775800) : Calls Tryz.prog 20 #[.string s] w fun e w' => e = .returned (.bool (idFit s)) ∧ w' = w := by
  have a0 := refId_any (ownId s) w (Nat.le_trans (ownId_size s) hs)
  have HI := Lib.hid (show idFit s = (idOk (ownId s) && (!mrk s || decide ((s.size : Int) ≤ 32))) from rfl)
  have HE := Lib.hid (show idE (ownId s) = if idOk (ownId s) then 0 else 26 from rfl)
  generalize idFit s = ok at *
  generalize idE (ownId s) = n at *
  by_cases h0 : 0 < s.size
  · have hm := mrk_at h0
    have h0' : (0 : Int) < (s.size : Int) := by omega
    cases e1 : mrk s with
    | false =>
      rw [e1] at hm
      have hq : ((s[0].toNat : Int) == 35) = false := hm.symm
      have ho : ownId s = s := by unfold ownId; rw [e1]; rfl
      rw [ho] at a0
      have HF := Lib.hid (show ok = idOk s ∧ n = if idOk s then 0 else 26 from ⟨by rw [HI.out, e1, ho]; simp, by rw [HE.out, ho]⟩)
      clear hm e1 ho HI HE
      cases e2 : idOk s with
      | true =>
        obtain ⟨rfl, rfl⟩ := (show ok = true ∧ n = 0 by have := HF.out; rw [e2] at this; exact this)
        clear HF e2
        go_enter Tryz.func20, Tryz.ntmps20
        go_wp2_with fail
        refine a0.mono ?_
        rintro e w' ⟨rfl, rfl⟩
        go_wp2
        go_ret
        exact ⟨rfl, rfl⟩
      | false =>
        obtain ⟨rfl, rfl⟩ := (show ok = false ∧ n = 26 by have := HF.out; rw [e2] at this; exact this)
        clear HF e2
        go_enter Tryz.func20, Tryz.ntmps20
        go_wp2_with fail
        refine a0.mono ?_
        rintro e w' ⟨rfl, rfl⟩
        go_wp2
        go_ret
        exact ⟨rfl, rfl⟩
    | true =>
      rw [e1] at hm
      have hq : ((s[0].toNat : Int) == 35) = true := hm.symm
      have ho : ownId s = s.extract 1 s.size := by unfold ownId; rw [e1]; rfl
      rw [ho] at a0
      have hz : (s.extract 1 s.size).size = s.size - 1 := by rw [ByteArray.size_extract]; omega
      have HF := Lib.hid (show ok = (idOk (s.extract 1 s.size) && decide ((s.size : Int) ≤ 32)) ∧ n = if idOk (s.extract 1 s.size) then 0 else 26 from ⟨by rw [HI.out, e1, ho]; simp, by rw [HE.out, ho]⟩)
      clear hm e1 ho HI HE
      cases e3 : decide ((s.size : Int) ≤ 32) with
      | false =>
        have e4 : decide ((32 : Int) ≤ (s.size : Int) - 1) = true := decide_eq_true (by have := of_decide_eq_false e3; omega)
        obtain rfl : ok = false := by have := HF.out.1; rw [e3, Bool.and_false] at this; exact this
        have hge : (32 : Int) ≤ (((s.size - 1 : Nat)) : Int) := by have := of_decide_eq_false e3; omega
        clear HF e3 a0
        go_enter Tryz.func20, Tryz.ntmps20
        go_wp2
        go_ret
        exact ⟨rfl, rfl⟩
      | true =>
        have hlt : ((s.size - 1 : Nat) : Int) < 32 := by have := of_decide_eq_true e3; omega
        cases e2 : idOk (s.extract 1 s.size) with
        | true =>
          obtain ⟨rfl, rfl⟩ := (show ok = true ∧ n = 0 by have := HF.out; rw [e2, e3] at this; exact this)
          clear HF e2 e3
          go_enter Tryz.func20, Tryz.ntmps20
          go_wp2_with fail
          refine a0.mono ?_
          rintro e w' ⟨rfl, rfl⟩
          go_wp2
          go_ret
          exact ⟨rfl, rfl⟩
        | false =>
          obtain ⟨rfl, rfl⟩ := (show ok = false ∧ n = 26 by have := HF.out; rw [e2, e3] at this; exact this)
          clear HF e2 e3
          go_enter Tryz.func20, Tryz.ntmps20
          go_wp2_with fail
          refine a0.mono ?_
          rintro e w' ⟨rfl, rfl⟩
          go_wp2
          go_ret
          exact ⟨rfl, rfl⟩
  · have hm : mrk s = false := by unfold mrk; rw [decide_eq_false (by omega)]; rfl
    have ho : ownId s = s := by unfold ownId; rw [hm]; rfl
    have HF := Lib.hid (show ok = idOk s ∧ n = if idOk s then 0 else 26 from ⟨by rw [HI.out, hm, ho]; simp, by rw [HE.out, ho]⟩)
    rw [ho] at a0
    have h0' : (s.size : Int) = 0 := by omega
    clear hm ho HI HE h0
    cases e2 : idOk s with
    | true =>
      obtain ⟨rfl, rfl⟩ := (show ok = true ∧ n = 0 by have := HF.out; rw [e2] at this; exact this)
      clear HF e2
      go_enter Tryz.func20, Tryz.ntmps20
      go_wp2_with fail
      refine a0.mono ?_
      rintro e w' ⟨rfl, rfl⟩
      go_wp2
      go_ret
      exact ⟨rfl, rfl⟩
    | false =>
      obtain ⟨rfl, rfl⟩ := (show ok = false ∧ n = 26 by have := HF.out; rw [e2] at this; exact this)
      clear HF e2
      go_enter Tryz.func20, Tryz.ntmps20
      go_wp2_with fail
      refine a0.mono ?_
      rintro e w' ⟨rfl, rfl⟩
      go_wp2
      go_ret
      exact ⟨rfl, rfl⟩

/-! ### accounts -/
theorem toList_inj {a b : ByteArray} (h : a.toList = b.toList) : a = b := by
  rw [ByteArray.toList_eq, ByteArray.toList_eq] at h
  exact WideShapes.bytes_inj h
/-- The last three signs. -/
def last3 (s : ByteArray) : ByteArray := s.extract (s.size - 3) s.size
/-- What the reference's account answers. -/
def racFit (s : ByteArray) : Bool := decide (chk s = 0) || (decide (4 ≤ s.size) && cod (last3 s) && ((s.toList == (sys 2 (last3 s)).toList) || (s.toList == (sys 3 (last3 s)).toList) || (s.toList == (sys 4 (last3 s)).toList) || (s.toList == (sys 5 (last3 s)).toList)))

theorem three {t : ByteArray} (h : t.size = 3) : ∃ x y z, t = ⟨#[x, y, z]⟩ := by
  obtain ⟨⟨l⟩⟩ := t
  have h : l.length = 3 := h
  match l, h with
  | [a, b, c], _ => exact ⟨a, b, c, rfl⟩
theorem sys_good {k : Int} {p t : ByteArray} (hp : pre k = some p) (h : cod t = true) : sys k t = p ++ t := by unfold sys; rw [h, hp]; rfl
theorem rac_one (s : ByteArray) (k : Nat) (p : ByteArray) (hp : pre (k : Int) = some p) (hcode : ∀ x y z, code (p ++ ⟨#[x, y, z]⟩) = ⟨#[x, y, z]⟩) (hdot : ∀ x y z, (0 : Int) ≤ dot (p ++ ⟨#[x, y, z]⟩)) (hlast : ∀ x y z, last3 (p ++ ⟨#[x, y, z]⟩) = ⟨#[x, y, z]⟩) (hps : ∀ x y z, 4 ≤ (p ++ ⟨#[x, y, z]⟩ : ByteArray).size) :
    (decide (4 ≤ s.size) && cod (last3 s) && (s.toList == (sys (k : Int) (last3 s)).toList)) = (decide ((0 : Int) ≤ dot s) && sysIs s k) := by
  rw [Bool.eq_iff_iff]
  simp only [Bool.and_eq_true, decide_eq_true_eq, beq_iff_eq]
  constructor
  · rintro ⟨⟨h1, h2⟩, h3⟩
    have e := toList_inj h3
    obtain ⟨x, y, z, ht⟩ := three (cod_size h2)
    rw [sys_good hp h2, ht] at e
    have hc : code s = ⟨#[x, y, z]⟩ := by rw [e]; exact hcode x y z
    refine ⟨by rw [e]; exact hdot x y z, ?_⟩
    unfold sysIs
    rw [hc, ← ht, sys_good hp h2, ht, ← e]
    exact beq_self_eq_true _
  · rintro ⟨h1, h2⟩
    unfold sysIs at h2
    have e := toList_inj (beq_iff_eq.1 h2)
    cases hc : cod (code s) with
    | false =>
      have : sys (k : Int) (code s) = ⟨#[]⟩ := by unfold sys; rw [hc]; rfl
      rw [this] at e
      rw [← e] at h1
      exact absurd h1 (by decide)
    | true =>
      rw [sys_good hp hc] at e
      obtain ⟨x, y, z, ht⟩ := three (cod_size hc)
      rw [ht] at e hc
      have hl : last3 s = ⟨#[x, y, z]⟩ := by rw [← e]; exact hlast x y z
      rw [hl, sys_good hp hc, e]
      exact ⟨⟨by rw [← e]; exact hps x y z, hc⟩, rfl⟩
theorem rac2 (s : ByteArray) : (decide (4 ≤ s.size) && cod (last3 s) && (s.toList == (sys 2 (last3 s)).toList)) = (decide ((0 : Int) ≤ dot s) && sysIs s 2) :=
  rac_one s 2 ⟨#[111, 117, 116, 115, 105, 100, 101, 46]⟩ (by rfl) (fun x y z => by kernel_rfl) (fun x y z => by
    have : dot ((⟨#[111, 117, 116, 115, 105, 100, 101, 46]⟩ : ByteArray) ++ ⟨#[x, y, z]⟩) = 7 := by kernel_rfl
    rw [this]; decide) (fun x y z => by kernel_rfl) (fun x y z => by
    have : ((⟨#[111, 117, 116, 115, 105, 100, 101, 46]⟩ : ByteArray) ++ ⟨#[x, y, z]⟩).size = 11 := by kernel_rfl
    omega)
theorem rac3 (s : ByteArray) : (decide (4 ≤ s.size) && cod (last3 s) && (s.toList == (sys 3 (last3 s)).toList)) = (decide ((0 : Int) ≤ dot s) && sysIs s 3) :=
  rac_one s 3 ⟨#[115, 117, 115, 112, 101, 110, 115, 101, 46]⟩ (by rfl) (fun x y z => by kernel_rfl) (fun x y z => by
    have : dot ((⟨#[115, 117, 115, 112, 101, 110, 115, 101, 46]⟩ : ByteArray) ++ ⟨#[x, y, z]⟩) = 8 := by kernel_rfl
    rw [this]; decide) (fun x y z => by kernel_rfl) (fun x y z => by
    have : ((⟨#[115, 117, 115, 112, 101, 110, 115, 101, 46]⟩ : ByteArray) ++ ⟨#[x, y, z]⟩).size = 12 := by kernel_rfl
    omega)
theorem rac4 (s : ByteArray) : (decide (4 ≤ s.size) && cod (last3 s) && (s.toList == (sys 4 (last3 s)).toList)) = (decide ((0 : Int) ≤ dot s) && sysIs s 4) :=
  rac_one s 4 ⟨#[99, 108, 101, 97, 114, 105, 110, 103, 46]⟩ (by rfl) (fun x y z => by kernel_rfl) (fun x y z => by
    have : dot ((⟨#[99, 108, 101, 97, 114, 105, 110, 103, 46]⟩ : ByteArray) ++ ⟨#[x, y, z]⟩) = 8 := by kernel_rfl
    rw [this]; decide) (fun x y z => by kernel_rfl) (fun x y z => by
    have : ((⟨#[99, 108, 101, 97, 114, 105, 110, 103, 46]⟩ : ByteArray) ++ ⟨#[x, y, z]⟩).size = 12 := by kernel_rfl
    omega)
theorem rac5 (s : ByteArray) : (decide (4 ≤ s.size) && cod (last3 s) && (s.toList == (sys 5 (last3 s)).toList)) = (decide ((0 : Int) ≤ dot s) && sysIs s 5) :=
  rac_one s 5 ⟨#[102, 101, 101, 115, 46]⟩ (by rfl) (fun x y z => by kernel_rfl) (fun x y z => by
    have : dot ((⟨#[102, 101, 101, 115, 46]⟩ : ByteArray) ++ ⟨#[x, y, z]⟩) = 4 := by kernel_rfl
    rw [this]; decide) (fun x y z => by kernel_rfl) (fun x y z => by
    have : ((⟨#[102, 101, 101, 115, 46]⟩ : ByteArray) ++ ⟨#[x, y, z]⟩).size = 8 := by kernel_rfl
    omega)
theorem racFit_eq (s : ByteArray) : racFit s = acFit s := by
  have h2 := rac2 s
  have h3 := rac3 s
  have h4 := rac4 s
  have h5 := rac5 s
  unfold racFit acFit
  generalize decide (chk s = 0) = c at *
  generalize (decide (4 ≤ s.size) && cod (last3 s)) = a at *
  generalize decide ((0 : Int) ≤ dot s) = d at *
  generalize (s.toList == (sys 2 (last3 s)).toList) = b2 at *
  generalize (s.toList == (sys 3 (last3 s)).toList) = b3 at *
  generalize (s.toList == (sys 4 (last3 s)).toList) = b4 at *
  generalize (s.toList == (sys 5 (last3 s)).toList) = b5 at *
  simp only [Bool.and_or_distrib_left, h2, h3, h4, h5]
end Go.Proofs.YtodekiimkbejnaaGreatDoor
