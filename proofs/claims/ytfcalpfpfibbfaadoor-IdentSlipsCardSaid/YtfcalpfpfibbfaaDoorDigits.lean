/- checks.Digits and remitref03.Digits, walked. -/
import Derived.Test.YtfcalpfpfibbfaaDoorRefRest
import Derived.Laws.BytesArg
namespace Go.Proofs.YtfcalpfpfibbfaaDoor
open Go.RowKit

def zz (s : ByteArray) : ByteArray := s ++ { data := #[48, 48] }
theorem zz_size (s : ByteArray) : (zz s).size = s.size + 2 := by unfold zz; rw [ByteArray.size_append]; rfl
theorem byt_zz {s : ByteArray} {k : Nat} (h : k < s.size) : byt (zz s) k = byt s k := by
  unfold byt
  rw [dif_pos h, dif_pos (by rw [zz_size]; omega)]
  congr 1
  exact ByteArray.getElem_append_left h
theorem byt_zz' {s : ByteArray} {k : Nat} (h : s.size ≤ k) (h2 : k < s.size + 2) : byt (zz s) k = 48 := by
  unfold byt
  rw [dif_pos (by rw [zz_size]; omega)]
  have : (zz s)[k]'(by rw [zz_size]; omega) = ({ data := #[48, 48] } : ByteArray)[k - s.size]'(by show _ < 2; omega) := ByteArray.getElem_append_right h
  rw [this]
  obtain h | h : k - s.size = 0 ∨ k - s.size = 1 := by omega
  all_goals simp only [h]; rfl
theorem restK_zz {s : ByteArray} : ∀ k, k ≤ s.size → restK (zz s) k = restK s k
  | 0, _ => rfl
  | k + 1, h => by
    unfold restK
    rw [restK_zz k (by omega), byt_zz (by omega)]
theorem restO_zz_none {s : ByteArray} (h0 : s.size ≠ 0) (h : restO s = none) : restO (zz s) = none := by
  unfold restO at h ⊢
  rw [if_neg h0] at h
  rw [if_neg (by rw [zz_size]; omega), zz_size]
  unfold restK; unfold restK
  rw [restK_zz _ (Nat.le_refl _), h]
theorem restO_zz_some {s : ByteArray} {r : Nat} (h : restO s = some r) : ∃ r', restO (zz s) = some r' := by
  unfold restO at h ⊢
  split at h
  · cases h
  · rw [if_neg (by rw [zz_size]; omega), zz_size]
    rw [← restK_zz _ (Nat.le_refl _)] at h
    have h1 := restK_dig h (by rw [byt_zz' (Nat.le_refl _) (by omega)]; rfl)
    have h2 := restK_dig h1 (by rw [byt_zz' (by omega) (by omega)]; rfl)
    exact ⟨_, h2⟩
theorem restO_lt {s : ByteArray} {r : Nat} (h : restO s = some r) : r < 97 := by
  unfold restO at h
  split at h
  · cases h
  · exact restK_lt h

/-- The two check digits of a number that leaves the rest r. -/
def cdig (r : Nat) : ByteArray := strOfNums [48 + (98 - (r : Int)) / 10, 48 + (98 - (r : Int)) % 10]
theorem conv2 (w : World) (x y : Int) : (convert 35 9 (.slice (some ⟨w.heap.size, 0, none⟩) 2 2)).run Tryd.prog (w.alloc (.cells #[.int .u8 x, .int .u8 y] 5)) = .ok (.string (strOfNums [x, y])) (w.alloc (.cells #[.int .u8 x, .int .u8 y] 5)) := by
  refine run_convert_bytes_arg _ 35 5 (by kernel_rfl) (by kernel_rfl) _ _ 2 2 [x, y] rfl ?_ 9 (by kernel_rfl)
  intro i hi
  obtain rfl | rfl : i = 0 ∨ i = 1 := by omega
  all_goals (unfold World.cell?; rw [heap_alloc_new]; rfl)
def digO (s : ByteArray) : Option ByteArray := if s.size = 0 then none else (restO (zz s)).map cdig
def digV (B : Nat → Addr) (s : ByteArray) : Value := match digO s with
  | some c => .tuple #[.string c, .nilIface]
  | none => .tuple #[.string ⟨#[]⟩, .iface 105 (.pointer (some (B 0)))]
theorem digV_none {B : Nat → Addr} {s : ByteArray} (h : digO s = none) : .tuple #[.string ⟨#[]⟩, .iface 105 (.pointer (some (B 0)))] = digV B s := by unfold digV; rw [h]
theorem digV_some {B : Nat → Addr} {s : ByteArray} {c : ByteArray} (h : digO s = some c) : .tuple #[.string c, .nilIface] = digV B s := by unfold digV; rw [h]

set_option maxRecDepth 100000 in
set_option maxHeartbeats 1000000 in
theorem digits_any (B : Nat → Addr) (s : ByteArray) (w : World) (hE : Env3 w B) (hs : s.size ≤ 9223372036854775000) :
    Calls Tryd.prog 29 #[.string s] w fun e w' => e = .returned (digV B s) ∧ Below w.heap.size w w' := by
  have c0 := hE.cell 0 (by decide)
  have HE := Lib.hid hE; clear hE
  by_cases h0 : s.size = 0
  · have hl : s.toList = [] := (toList_nil_iff_emptyBytes s).2 (size_zero h0)
    have F := Lib.hid (digV_none (B := B) (show digO s = none by unfold digO; rw [if_pos h0]))
    generalize digV B s = V at *
    go_enter Tryd.func29, Tryd.ntmps29
    go_wp2
    go_quiet (fail)
    go_wp2
    go_ret2
    exact ⟨congrArg Ending.returned F.out, below_drewN (Below.refl _ _) _⟩
  · have hl := toList_ne h0
    have hl2 : s.toList.isEmpty = false := by simpa using hl
    have hz : zz s = s ++ { data := #[48, 48] } := rfl
    have hzs : (zz s).size ≤ 9223372036854775800 := by rw [zz_size]; omega
    have F0 := Lib.hid (show (restO (zz s) = none → _ = digV B s) ∧ ∀ r, restO (zz s) = some r → _ = digV B s from
      ⟨fun h => digV_none (by unfold digO; rw [if_neg h0, h]; rfl), fun r h => digV_some (by unfold digO; rw [if_neg h0, h]; rfl)⟩)
    have H0 := Lib.hid h0; clear h0
    generalize digV B s = V at *
    have hr := rest_any B (zz s) w HE.out hzs
    unfold restV at hr
    cases ho : restO (zz s) with
    | none =>
      rw [ho] at hr
      simp only [badV] at hr
      have F := Lib.hid (F0.out.1 ho)
      go_enter Tryd.func29, Tryd.ntmps29
      go_wp2_with (go_at_call 47; refine hr.mono ?_; rintro e w' ⟨rfl, hb⟩)
      go_ret2
      exact ⟨congrArg Ending.returned F.out, hb⟩
    | some r =>
      rw [ho] at hr
      simp only [okV] at hr
      have hr97 := restO_lt ho
      have F := Lib.hid (F0.out.2 r ho)
      have hc2 := conv2
      go_enter Tryd.func29, Tryd.ntmps29
      go_wp2_with (go_at_call 47; refine hr.mono ?_; rintro e w' ⟨rfl, hb⟩)
      go_ret2
      exact ⟨congrArg Ending.returned F.out, hb.alloc hb.size _⟩

def refDigV (s : ByteArray) : Value := match digO s with
  | some c => .tuple #[.string c, .int .i64 0]
  | none => .tuple #[.string ⟨#[]⟩, .int .i64 7]
theorem refDigV_none {s : ByteArray} (h : digO s = none) : .tuple #[.string ⟨#[]⟩, .int .i64 7] = refDigV s := by unfold refDigV; rw [h]
theorem refDigV_some {s : ByteArray} {c : ByteArray} (h : digO s = some c) : .tuple #[.string c, .int .i64 0] = refDigV s := by unfold refDigV; rw [h]

set_option maxRecDepth 100000 in
set_option maxHeartbeats 1000000 in
theorem refDigits_any (s : ByteArray) (w : World) (hs : s.size ≤ 9223372036854775000) :
    Calls Tryd.prog 31 #[.string s] w fun e w' => e = .returned (refDigV s) ∧ Below w.heap.size w w' := by
  have hr0 := fun w => refRest_any s w (by omega)
  have hz : zz s = s ++ { data := #[48, 48] } := rfl
  have hr := fun w => refRest_any (zz s) w (by rw [zz_size]; omega)
  unfold refRestV at hr0 hr
  cases ho : restO s with
  | none =>
    have F := Lib.hid (refDigV_none (s := s) (by
      unfold digO; split
      · rfl
      · rw [restO_zz_none (by assumption) ho]; rfl))
    generalize refDigV s = V at *
    rw [ho] at hr0
    simp only [badR] at hr0
    clear hr
    go_enter Tryd.func31, Tryd.ntmps31
    go_wp2_with (go_at_call 48; refine (hr0 _).mono ?_; rintro e w' ⟨rfl, rfl⟩)
    go_ret2
    exact ⟨congrArg Ending.returned F.out, Below.refl _ _⟩
  | some r0 =>
    obtain ⟨r, ho2⟩ := restO_zz_some ho
    have F := Lib.hid (refDigV_some (s := s) (c := cdig r) (by
      unfold digO; split
      · rename_i h0; unfold restO at ho; rw [if_pos h0] at ho; cases ho
      · rw [ho2]; rfl))
    generalize refDigV s = V at *
    have hr97 := restO_lt ho2
    rw [ho] at hr0
    rw [ho2] at hr
    simp only [okR] at hr0 hr
    have hc2 := conv2
    go_enter Tryd.func31, Tryd.ntmps31
    rw [hz] at hr
    go_wp2_with fail
    refine (hr0 _).mono ?_
    rintro e w' ⟨rfl, rfl⟩
    go_wp2_with fail
    refine (hr _).mono ?_
    rintro e w' ⟨rfl, rfl⟩
    go_wp2_with fail
    go_ret2
    exact ⟨congrArg Ending.returned F.out, (Below.refl _ _).alloc (Nat.le_refl _) _⟩
end Go.Proofs.YtfcalpfpfibbfaaDoor
