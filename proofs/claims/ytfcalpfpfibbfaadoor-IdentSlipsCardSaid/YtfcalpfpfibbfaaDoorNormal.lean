/- ident.Normal and the reference's Normal: walked. -/
import Derived.Test.YtfcalpfpfibbfaaDoorCheck
import Derived.Test.YtfcalpfpfibbfaaDoorBytes
namespace Go.Proofs.YtfcalpfpfibbfaaDoor
open Go.RowKit

/-- What a byte becomes in the normal form. -/
def nrm (n : Nat) : List Int := if n = 32 then [] else if 97 ≤ n ∧ n ≤ 122 then [(n : Int) - 32] else [(n : Int)]
def nrmL (s : ByteArray) : Nat → List Int
  | 0 => []
  | k + 1 => nrmL s k ++ nrm (byt s k)
theorem nrm_le (n : Nat) : (nrm n).length ≤ 1 := by unfold nrm; split; · exact Nat.zero_le _
                                                    · split <;> exact Nat.le_refl _
theorem nrmL_le (s : ByteArray) : ∀ k, (nrmL s k).length ≤ k
  | 0 => Nat.le_refl _
  | k + 1 => by unfold nrmL; rw [List.length_append]; have := nrmL_le s k; have := nrm_le (byt s k); omega
theorem nrmL_skip {s : ByteArray} {k : Nat} (h : byt s k = 32) : nrmL s (k + 1) = nrmL s k := by
  show nrmL s k ++ nrm (byt s k) = _
  rw [h]; unfold nrm; rw [if_pos rfl, List.append_nil]
theorem nrmL_low {s : ByteArray} {k : Nat} (h1 : 97 ≤ byt s k) (h2 : byt s k ≤ 122) : nrmL s (k + 1) = nrmL s k ++ [(byt s k : Int) - 32] := by
  show nrmL s k ++ nrm (byt s k) = _
  unfold nrm; rw [if_neg (by omega), if_pos ⟨h1, h2⟩]
theorem nrmL_keep {s : ByteArray} {k : Nat} (h0 : byt s k ≠ 32) (h : byt s k < 97 ∨ 122 < byt s k) : nrmL s (k + 1) = nrmL s k ++ [(byt s k : Int)] := by
  show nrmL s k ++ nrm (byt s k) = _
  unfold nrm; rw [if_neg h0, if_neg (by omega)]
/-- The normal form, unchecked. -/
def nrmS (s : ByteArray) : ByteArray := strOfNums (nrmL s s.size)
theorem nrmS_size (s : ByteArray) : (nrmS s).size ≤ s.size := by unfold nrmS; rw [strOfNums_size]; exact nrmL_le s _

theorem ev_0 (B : Nat → Addr) : ev B 0 = .nilIface := rfl
theorem ev_7 (B : Nat → Addr) : ev B 7 = .iface 105 (.pointer (some (B 0))) := rfl
theorem ev_8 (B : Nat → Addr) : ev B 8 = .iface 105 (.pointer (some (B 3))) := rfl
theorem info5 : (Tryd.prog.info? 5).map (fun i => (i.zero, i.size, i.bytes)) = some (some (.int .u8 0), 1, 1) := by kernel_rfl

def normV (B : Nat → Addr) (s : ByteArray) : Value := if chk (nrmS s) = 0 then .tuple #[.string (nrmS s), .nilIface] else .tuple #[.string ⟨#[]⟩, ev B (chk (nrmS s))]
def refNormV (s : ByteArray) : Value := if chk (nrmS s) = 0 then .tuple #[.string (nrmS s), .int .i64 0] else .tuple #[.string ⟨#[]⟩, .int .i64 (chk (nrmS s))]
theorem chk_three (s : ByteArray) : chk s = 0 ∨ chk s = 7 ∨ chk s = 8 := by
  unfold chk
  repeat' split
  all_goals simp

set_option maxRecDepth 100000 in
set_option maxHeartbeats 1000000 in
theorem normal_any (B : Nat → Addr) (s : ByteArray) (w : World) (hE : Env3 w B) (hs : s.size ≤ 140737488355328) :
    Calls Tryd.prog 16 #[.string s] w fun e w' => e = .returned (normV B s) ∧ Below w.heap.size w w' := by
  have HE := Lib.hid hE; clear hE
  have hr : (chk (nrmS s) = 0 → normV B s = .tuple #[.string (nrmS s), .nilIface]) ∧ (chk (nrmS s) = 7 → normV B s = .tuple #[.string ⟨#[]⟩, .iface 105 (.pointer (some (B 0)))]) ∧ (chk (nrmS s) = 8 → normV B s = .tuple #[.string ⟨#[]⟩, .iface 105 (.pointer (some (B 3)))]) := by
    unfold normV
    exact ⟨fun h => by rw [if_pos h], fun h => by rw [h]; rfl, fun h => by rw [h]; rfl⟩
  have HR := Lib.hid hr; clear hr
  generalize normV B s = V at *
  go_enter Tryd.func16, Tryd.ntmps16
  go_wp2
  go_loopw [4, 5, 6, 10] (fun v _ _ i wr => ∃ k : Nat, k ≤ s.size ∧ i = .int .i64 k ∧ Hid (ownsB wr w.heap.size 5 v (nrmL s k)) ∧ Hid (Below w.heap.size w wr)) (fun _ _ _ i _ => s.size - (intOf i).toNat)
  case atStart => exact ⟨0, Nat.zero_le _, rfl, ownsB_nil _ _ _, Below.refl _ _⟩
  case round =>
    obtain ⟨k, hk, rfl, hown, hb⟩ := hrel
    have hsz := hb.out.size
    have hle := nrmL_le s k
    by_cases hlt : k < s.size
    · have hbyt : byt s k = s[k].toNat := by unfold byt; rw [dif_pos hlt]
      have hu8 := byt_lt s k
      by_cases h32 : byt s k = 32
      · have F := Lib.hid (nrmL_skip h32)
        rw [hbyt] at h32
        have h32' : ((s[k].toNat : Int) == 32) = true := by simp; omega
        clear h32
        have HB := Lib.hid hbyt; clear hbyt hu8 hle
        go_wp2
        go_roundw
        case rel => exact ⟨k + 1, by omega, by go_num, by rw [F.out]; exact hown, hb⟩
        case measure => simp [intOf]; omega
      · have h32' : ((s[k].toNat : Int) == 32) = false := by simp; omega
        by_cases hlow : 97 ≤ byt s k ∧ byt s k ≤ 122
        · have F := Lib.hid (nrmL_low hlow.1 hlow.2)
          have q1 : (97 : Int) ≤ (s[k].toNat : Int) := by omega
          have q2 : (s[k].toNat : Int) ≤ 122 := by omega
          rw [hbyt] at F
          have HB := Lib.hid hbyt; clear hbyt hu8 h32 hlow
          go_wp2_with (first | (at_builtin; refine append_byte rfl _ _ 35 rfl w.heap.size 5 Tryd.underlying35 info5 _ _ rfl hown.out _ rfl ?c1 hsz ?_))
          case c1 => omega
          intro v' w' ho hbw
          have hb2 := hb.out.trans hbw
          go_wp2
          go_roundw
          case rel => exact ⟨k + 1, by omega, by go_num, by rw [F.out]; exact ho, hb2⟩
          case measure => simp [intOf]; omega
        · have F := Lib.hid (nrmL_keep h32 (by omega))
          rw [hbyt] at F
          rcases (show (s[k].toNat : Int) < 97 ∨ ((97 : Int) ≤ (s[k].toNat : Int) ∧ (122 : Int) < (s[k].toNat : Int)) by omega) with q1 | ⟨q1, q2⟩
          · have q1' : decide ((97 : Int) ≤ (s[k].toNat : Int)) = false := decide_eq_false (by omega)
            have HB := Lib.hid hbyt; clear hbyt hu8 h32 hlow
            go_wp2_with (first | (at_builtin; refine append_byte rfl _ _ 35 rfl w.heap.size 5 Tryd.underlying35 info5 _ _ rfl hown.out _ rfl ?c1 hsz ?_))
            case c1 => omega
            intro v' w' ho hbw
            have hb2 := hb.out.trans hbw
            go_wp2
            go_roundw
            case rel => exact ⟨k + 1, by omega, by go_num, by rw [F.out]; exact ho, hb2⟩
            case measure => simp [intOf]; omega
          · have q2' : decide ((s[k].toNat : Int) ≤ 122) = false := decide_eq_false (by omega)
            have HB := Lib.hid hbyt; clear hbyt hu8 h32 hlow
            go_wp2_with (first | (at_builtin; refine append_byte rfl _ _ 35 rfl w.heap.size 5 Tryd.underlying35 info5 _ _ rfl hown.out _ rfl ?c1 hsz ?_))
            case c1 => omega
            intro v' w' ho hbw
            have hb2 := hb.out.trans hbw
            go_wp2
            go_roundw
            case rel => exact ⟨k + 1, by omega, by go_num, by rw [F.out]; exact ho, hb2⟩
            case measure => simp [intOf]; omega
    · obtain rfl : k = s.size := by omega
      have hconv := fun w' (h : Below wr.heap.size wr w') => convert_own (P := Tryd.prog) (src := 35) (dst := 9) (ownsB_below hown.out h) Tryd.underlying35 Tryd.underlying5 Tryd.underlying9
      have k1 := hconv wr (Below.refl _ _)
      have ns := nrmS_size s
      have hck := check_any B (nrmS s) wr (HE.out.below hb.out) (by omega)
      rcases chk_three (nrmS s) with h0 | h0 | h0
      · have F := Lib.hid (HR.out.1 h0)
        rw [h0, ev_0] at hck
        go_wp2_with fail
        refine hck.mono ?_
        rintro e w1 ⟨rfl, hb1⟩
        have k2 := hconv w1 hb1
        go_wp2
        go_ret2
        exact ⟨by rw [F.out]; rfl, hb.out.trans (hb1.mono hsz)⟩
      · have F := Lib.hid (HR.out.2.1 h0)
        rw [h0, ev_7] at hck
        go_wp2_with fail
        refine hck.mono ?_
        rintro e w1 ⟨rfl, hb1⟩
        go_wp2
        go_ret2
        exact ⟨by rw [F.out]; rfl, hb.out.trans (hb1.mono hsz)⟩
      · have F := Lib.hid (HR.out.2.2 h0)
        rw [h0, ev_8] at hck
        go_wp2_with fail
        refine hck.mono ?_
        rintro e w1 ⟨rfl, hb1⟩
        go_wp2
        go_ret2
        exact ⟨by rw [F.out]; rfl, hb.out.trans (hb1.mono hsz)⟩

set_option maxRecDepth 100000 in
set_option maxHeartbeats 1000000 in
theorem refNormal_any (s : ByteArray) (w : World) (hs : s.size ≤ 140737488355328) :
    Calls Tryd.prog 17 #[.string s] w fun e w' => e = .returned (refNormV s) ∧ Below w.heap.size w w' := by
  have hr : (chk (nrmS s) = 0 → refNormV s = .tuple #[.string (nrmS s), .int .i64 0]) ∧ (chk (nrmS s) = 7 → refNormV s = .tuple #[.string ⟨#[]⟩, .int .i64 7]) ∧ (chk (nrmS s) = 8 → refNormV s = .tuple #[.string ⟨#[]⟩, .int .i64 8]) := by
    unfold refNormV
    exact ⟨fun h => by rw [if_pos h], fun h => by rw [h]; rfl, fun h => by rw [h]; rfl⟩
  have HR := Lib.hid hr; clear hr
  generalize refNormV s = V at *
  go_enter Tryd.func17, Tryd.ntmps17
  go_wp2
  go_loopw [4, 5, 6] (fun v i _ wr => ∃ k : Nat, k ≤ s.size ∧ i = .int .i64 k ∧ Hid (ownsB wr w.heap.size 5 v (nrmL s k)) ∧ Hid (Below w.heap.size w wr)) (fun _ i _ _ => s.size - (intOf i).toNat)
  case atStart => exact ⟨0, Nat.zero_le _, rfl, World.ownsRow_made w #[] 0 (Nat.le_refl _) (by decide) rfl, (Below.refl _ _).alloc (Nat.le_refl _) _⟩
  case round =>
    obtain ⟨k, hk, rfl, hown, hb⟩ := hrel
    have hsz := hb.out.size
    have hle := nrmL_le s k
    by_cases hlt : k < s.size
    · have hbyt : byt s k = s[k].toNat := by unfold byt; rw [dif_pos hlt]
      have hu8 := byt_lt s k
      by_cases h32 : byt s k = 32
      · have F := Lib.hid (nrmL_skip h32)
        rw [hbyt] at h32
        have h32' : ((s[k].toNat : Int) == 32) = true := by simp; omega
        clear h32
        have HB := Lib.hid hbyt; clear hbyt hu8 hle
        go_wp2
        go_roundw
        case rel => exact ⟨k + 1, by omega, by go_num, by rw [F.out]; exact hown, hb⟩
        case measure => simp [intOf]; omega
      · have h32' : ((s[k].toNat : Int) == 32) = false := by simp; omega
        by_cases hlow : 97 ≤ byt s k ∧ byt s k ≤ 122
        · have F := Lib.hid (nrmL_low hlow.1 hlow.2)
          have q1 : (97 : Int) ≤ (s[k].toNat : Int) := by omega
          have q2 : (s[k].toNat : Int) ≤ 122 := by omega
          rw [hbyt] at F
          have HB := Lib.hid hbyt; clear hbyt hu8 h32 hlow
          go_wp2_with (first | (at_builtin; refine append_byte rfl _ _ 35 rfl w.heap.size 5 Tryd.underlying35 info5 _ _ rfl hown.out _ rfl ?c1 hsz ?_))
          case c1 => omega
          intro v' w' ho hbw
          have hb2 := hb.out.trans hbw
          go_wp2
          go_roundw
          case rel => exact ⟨k + 1, by omega, by go_num, by rw [F.out, show (s[k].toNat : Int) - 32 = s[k].toNat - 97 + 65 by omega]; exact ho, hb2⟩
          case measure => simp [intOf]; omega
        · have F := Lib.hid (nrmL_keep h32 (by omega))
          rw [hbyt] at F
          rcases (show (s[k].toNat : Int) < 97 ∨ ((97 : Int) ≤ (s[k].toNat : Int) ∧ (122 : Int) < (s[k].toNat : Int)) by omega) with q1 | ⟨q1, q2⟩
          · have q1' : decide ((97 : Int) ≤ (s[k].toNat : Int)) = false := decide_eq_false (by omega)
            have HB := Lib.hid hbyt; clear hbyt hu8 h32 hlow
            go_wp2_with (first | (at_builtin; refine append_byte rfl _ _ 35 rfl w.heap.size 5 Tryd.underlying35 info5 _ _ rfl hown.out _ rfl ?c1 hsz ?_))
            case c1 => omega
            intro v' w' ho hbw
            have hb2 := hb.out.trans hbw
            go_wp2
            go_roundw
            case rel => exact ⟨k + 1, by omega, by go_num, by rw [F.out]; exact ho, hb2⟩
            case measure => simp [intOf]; omega
          · have q2' : decide ((s[k].toNat : Int) ≤ 122) = false := decide_eq_false (by omega)
            have HB := Lib.hid hbyt; clear hbyt hu8 h32 hlow
            go_wp2_with (first | (at_builtin; refine append_byte rfl _ _ 35 rfl w.heap.size 5 Tryd.underlying35 info5 _ _ rfl hown.out _ rfl ?c1 hsz ?_))
            case c1 => omega
            intro v' w' ho hbw
            have hb2 := hb.out.trans hbw
            go_wp2
            go_roundw
            case rel => exact ⟨k + 1, by omega, by go_num, by rw [F.out]; exact ho, hb2⟩
            case measure => simp [intOf]; omega
    · obtain rfl : k = s.size := by omega
      have hconv := fun w' (h : Below wr.heap.size wr w') => convert_own (P := Tryd.prog) (src := 35) (dst := 9) (ownsB_below hown.out h) Tryd.underlying35 Tryd.underlying5 Tryd.underlying9
      have k1 := hconv wr (Below.refl _ _)
      have ns := nrmS_size s
      have hck := refCheck_any (nrmS s) wr (by omega)
      rcases chk_three (nrmS s) with h0 | h0 | h0
      · have F := Lib.hid (HR.out.1 h0)
        rw [h0] at hck
        go_wp2_with fail
        refine hck.mono ?_
        rintro e w1 ⟨rfl, hb1⟩
        have k2 := hconv w1 hb1
        go_wp2
        go_ret2
        exact ⟨by rw [F.out]; rfl, hb.out.trans (hb1.mono hsz)⟩
      · have F := Lib.hid (HR.out.2.1 h0)
        rw [h0] at hck
        go_wp2_with fail
        refine hck.mono ?_
        rintro e w1 ⟨rfl, hb1⟩
        go_wp2
        go_ret2
        exact ⟨by rw [F.out]; rfl, hb.out.trans (hb1.mono hsz)⟩
      · have F := Lib.hid (HR.out.2.2 h0)
        rw [h0] at hck
        go_wp2_with fail
        refine hck.mono ?_
        rintro e w1 ⟨rfl, hb1⟩
        go_wp2
        go_ret2
        exact ⟨by rw [F.out]; rfl, hb.out.trans (hb1.mono hsz)⟩
end Go.Proofs.YtfcalpfpfibbfaaDoor
