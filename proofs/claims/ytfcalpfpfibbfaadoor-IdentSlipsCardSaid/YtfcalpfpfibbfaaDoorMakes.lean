/- ident.Make and the reference's Make: walked. -/
import Derived.Test.YtfcalpfpfibbfaaDoorMake
namespace Go.Proofs.YtfcalpfpfibbfaaDoor
open Go.RowKit

theorem allB_at {p : Nat → Bool} {s : ByteArray} : ∀ {n k : Nat}, allB p s n = true → k < n → p (byt s k) = true
  | n + 1, k, h, hk => by
    unfold allB at h
    rw [Bool.and_eq_true] at h
    by_cases e : k = n
    · subst e; exact h.2
    · exact allB_at h.1 (by omega)
theorem restK_all {s : ByteArray} : ∀ n, (∀ k, k < n → alnum (byt s k) = true) → ∃ r, restK s n = some r
  | 0, _ => ⟨0, rfl⟩
  | n + 1, h => by
    obtain ⟨r, hr⟩ := restK_all n (fun k hk => h k (by omega))
    have := h n (by omega)
    unfold alnum at this
    cases hd : dig (byt s n)
    · cases hc : cap (byt s n)
      · rw [hd, hc] at this; cases this
      · exact ⟨_, restK_cap hr hd hc⟩
    · exact ⟨_, restK_dig hr hd⟩
theorem byt_app_left {a b : ByteArray} {k : Nat} (h : k < a.size) : byt (a ++ b) k = byt a k := by
  unfold byt
  rw [dif_pos h, dif_pos (by rw [ByteArray.size_append]; omega)]
  congr 1
  exact ByteArray.getElem_append_left h
theorem byt_app_right {a b : ByteArray} {k : Nat} (h : a.size ≤ k) : byt (a ++ b) k = byt b (k - a.size) := by
  unfold byt
  by_cases h2 : k - a.size < b.size
  · rw [dif_pos h2, dif_pos (by rw [ByteArray.size_append]; omega)]
    congr 1
    exact ByteArray.getElem_append_right h
  · rw [dif_neg h2, dif_neg (by rw [ByteArray.size_append]; omega)]

theorem prt_size {c b : ByteArray} (h : prt c b = true) : c.size = 2 ∧ 1 ≤ b.size ∧ b.size ≤ 30 := by
  unfold prt at h
  simp only [Bool.and_eq_true, beq_iff_eq, decide_eq_true_eq] at h
  omega
theorem prt_all {c b : ByteArray} (h : prt c b = true) : allB cap c c.size = true ∧ allB alnum b b.size = true := by
  unfold prt at h
  simp only [Bool.and_eq_true] at h
  exact ⟨h.1.1.1.2, h.2⟩

theorem prt_dig {c b : ByteArray} (h : prt c b = true) : ∃ d, digO (b ++ c) = some d ∧ d.size = 2 := by
  obtain ⟨h1, h2, h3⟩ := prt_size h
  obtain ⟨h4, h5⟩ := prt_all h
  have hs : (b ++ c).size = b.size + c.size := ByteArray.size_append
  obtain ⟨r, hr⟩ := restK_all (s := b ++ c) (b ++ c).size (fun k hk => by
    by_cases e : k < b.size
    · rw [byt_app_left e]; exact allB_at h5 e
    · rw [byt_app_right (by omega)]
      have := allB_at h4 (show k - b.size < c.size by omega)
      unfold alnum; rw [this]; rfl)
  obtain ⟨r', hr'⟩ := restO_zz_some (s := b ++ c) (r := r) (by unfold restO; rw [if_neg (by omega)]; exact hr)
  exact ⟨_, by unfold digO; rw [if_neg (by omega), hr']; rfl, strOfNums_size _⟩

def mkO (c b : ByteArray) : Option ByteArray := if prt c b then (digO (b ++ c)).map fun d => c ++ d ++ b else none
def mkV (B : Nat → Addr) (c b : ByteArray) : Value := match mkO c b with
  | some x => .tuple #[.string x, .nilIface]
  | none => .tuple #[.string ⟨#[]⟩, .iface 105 (.pointer (some (B 0)))]
def refMkV (c b : ByteArray) : Value := match mkO c b with
  | some x => .tuple #[.string x, .int .i64 0]
  | none => .tuple #[.string ⟨#[]⟩, .int .i64 7]
theorem mkO_none {c b : ByteArray} (h : prt c b = false) : mkO c b = none := by unfold mkO; rw [h]; rfl
theorem mkO_some {c b d : ByteArray} (h : prt c b = true) (hd : digO (b ++ c) = some d) : mkO c b = some (c ++ d ++ b) := by unfold mkO; rw [h, hd]; rfl

set_option maxRecDepth 100000 in
set_option maxHeartbeats 1000000 in
theorem make_any (B : Nat → Addr) (c b : ByteArray) (w : World) (hE : Env3 w B) (hc : c.size ≤ 9223372036854775800) (hb : b.size ≤ 9223372036854775800) :
    Calls Tryd.prog 10 #[.string c, .string b] w fun e w' => e = .returned (mkV B c b) ∧ Below w.heap.size w w' := by
  have c0 := hE.cell 0 (by decide)
  have a1 := fun w => parts_any c b w hc hb
  unfold mkV
  cases h : prt c b
  · rw [mkO_none h]
    rw [h] at a1
    have HE := Lib.hid hE; clear hE
    simp only
    go_enter Tryd.func10, Tryd.ntmps10
    go_wp2_with (go_at_call 28; refine (a1 _).mono ?_; rintro e w' ⟨rfl, rfl⟩)
    go_quiet (fail)
    go_wp2
    go_ret2
    exact ⟨rfl, below_drewN (Below.refl _ _) _⟩
  · obtain ⟨d, hd, s4⟩ := prt_dig h
    rw [mkO_some h hd]
    rw [h] at a1
    obtain ⟨s1, s2, s3⟩ := prt_size h
    have a2 := digits_any B (b ++ c) w hE (by rw [ByteArray.size_append]; omega)
    unfold digV at a2
    rw [hd] at a2
    have HE := Lib.hid hE; clear hE
    have HD := Lib.hid hd; clear hd
    simp only at a2 ⊢
    go_enter Tryd.func10, Tryd.ntmps10
    go_wp2_with fail
    refine (a1 _).mono ?_
    rintro e w' ⟨rfl, rfl⟩
    go_wp2_with fail
    refine a2.mono ?_
    rintro e w' ⟨rfl, hbw⟩
    go_wp2_with fail
    go_ret2
    exact ⟨rfl, hbw⟩

set_option maxRecDepth 100000 in
set_option maxHeartbeats 1000000 in
theorem refMake_any (c b : ByteArray) (w : World) (hc : c.size ≤ 9223372036854775800) (hb : b.size ≤ 9223372036854775800) :
    Calls Tryd.prog 11 #[.string c, .string b] w fun e w' => e = .returned (refMkV c b) ∧ Below w.heap.size w w' := by
  have a1 := fun w => refAll_cap c w hc
  have a2 := fun w => refAll_alnum b w hb
  unfold refMkV
  cases h : prt c b
  · rw [mkO_none h]
    simp only
    unfold prt at h
    cases h1 : ((c.size : Int) == 2)
    · have h1q : ((c.size : Int) != 2) = true := by unfold bne; rw [h1]; rfl
      go_enter Tryd.func11, Tryd.ntmps11
      go_wp2
      go_ret2
      exact ⟨rfl, Below.refl _ _⟩
    · have h1q : ((c.size : Int) != 2) = false := by unfold bne; rw [h1]; rfl
      cases h2 : allB cap c c.size
      · rw [h2] at a1
        go_enter Tryd.func11, Tryd.ntmps11
        go_wp2_with (go_at_call 30; refine (a1 _).mono ?_; rintro e w' ⟨rfl, rfl⟩)
        go_ret2
        exact ⟨rfl, Below.refl _ _⟩
      · rw [h2] at a1
        rcases (show (b.size : Int) < 1 ∨ (1 : Int) ≤ (b.size : Int) by omega) with h3 | h3
        · go_enter Tryd.func11, Tryd.ntmps11
          go_wp2_with (go_at_call 30; refine (a1 _).mono ?_; rintro e w' ⟨rfl, rfl⟩)
          go_ret2
          exact ⟨rfl, Below.refl _ _⟩
        · rcases (show (30 : Int) < (b.size : Int) ∨ (b.size : Int) ≤ 30 by omega) with h4 | h4
          · go_enter Tryd.func11, Tryd.ntmps11
            go_wp2_with (go_at_call 30; refine (a1 _).mono ?_; rintro e w' ⟨rfl, rfl⟩)
            go_ret2
            exact ⟨rfl, Below.refl _ _⟩
          · have h5 : allB alnum b b.size = false := by
              rw [h1, h2, decide_eq_true h3, decide_eq_true h4] at h
              simpa using h
            rw [h5] at a2
            go_enter Tryd.func11, Tryd.ntmps11
            go_wp2_with fail
            refine (a1 _).mono ?_
            rintro e w' ⟨rfl, rfl⟩
            go_wp2_with fail
            refine (a2 _).mono ?_
            rintro e w' ⟨rfl, rfl⟩
            go_wp2_with fail
            go_ret2
            exact ⟨rfl, Below.refl _ _⟩
  · obtain ⟨d, hd, s4⟩ := prt_dig h
    rw [mkO_some h hd]
    obtain ⟨s1, s2, s3⟩ := prt_size h
    obtain ⟨h2, h5⟩ := prt_all h
    rw [h2] at a1
    rw [h5] at a2
    have a3 := refDigits_any (b ++ c) w (by rw [ByteArray.size_append]; omega)
    unfold refDigV at a3
    rw [hd] at a3
    have HD := Lib.hid hd; clear hd
    simp only at a3 ⊢
    have h1q : ((c.size : Int) != 2) = false := by rw [s1]; rfl
    have h3 : (1 : Int) ≤ (b.size : Int) := by omega
    have h4 : (b.size : Int) ≤ 30 := by omega
    go_enter Tryd.func11, Tryd.ntmps11
    go_wp2_with fail
    refine (a1 _).mono ?_
    rintro e w' ⟨rfl, rfl⟩
    go_wp2_with fail
    refine (a2 _).mono ?_
    rintro e w' ⟨rfl, rfl⟩
    go_wp2_with fail
    refine a3.mono ?_
    rintro e w' ⟨rfl, hbw⟩
    go_wp2_with fail
    go_ret2
    exact ⟨rfl, hbw⟩
end Go.Proofs.YtfcalpfpfibbfaaDoor
