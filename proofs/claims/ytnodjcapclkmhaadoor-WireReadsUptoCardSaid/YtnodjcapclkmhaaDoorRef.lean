/- The document's answer for what a Writer writes: walked. -/
import Derived.Test.YtnodjcapclkmhaaDoorFlt
namespace Go.Proofs.YtnodjcapclkmhaaDoor
open Go.RowKit

/-- Bytes. -/
def byteL (xs : List Int) : Prop := ∀ x ∈ xs, 0 ≤ x ∧ x < 256
theorem byteL_app {a b : List Int} (h : byteL a) (k : byteL b) : byteL (a ++ b) := fun x hx => by
  rcases List.mem_append.1 hx with h1 | h1
  · exact h x h1
  · exact k x h1
theorem byteL_nums (s : ByteArray) : byteL (nums s) := fun x hx => by
  unfold nums at hx
  obtain ⟨b, _, rfl⟩ := List.mem_map.1 hx
  have := b.toNat_lt
  omega
theorem byteL_low : ∀ n x, byteL (lowL x n)
  | 0, _ => fun x hx => by cases hx
  | n + 1, x => fun y hy => by
    unfold lowL at hy
    rcases List.mem_cons.1 hy with rfl | h
    · omega
    · exact byteL_low n _ y h
theorem byteL_uv (x : Nat) : byteL (uvL x) := by
  intro y hy
  induction x using Nat.strongRecOn with
  | ind x ih =>
    by_cases h : x < 128
    · rw [uvL_last h] at hy
      obtain rfl := List.mem_singleton.1 hy
      omega
    · rw [uvL_more (by omega)] at hy
      rcases List.mem_cons.1 hy with rfl | h1
      · omega
      · exact ih (x / 128) (by omega) h1
theorem byteL_text (s : ByteArray) : byteL (textL s) := byteL_app (byteL_uv _) (byteL_nums _)
theorem byteL_ts (ss : Nat → ByteArray) : ∀ n, byteL (tsL ss n)
  | 0 => fun x hx => by cases hx
  | n + 1 => byteL_app (byteL_ts ss n) (byteL_text _)

theorem nums_str {xs : List Int} (h : byteL xs) : nums (strOfNums xs) = xs := by
  unfold nums
  rw [strOfNums_data, List.map_map]
  conv => rhs; rw [← List.map_id xs]
  apply List.map_congr_left
  intro x hx
  obtain ⟨h0, h1⟩ := h x hx
  show ((UInt8.ofNat x.toNat).toNat : Int) = x
  rw [UInt8.toNat_ofNat']
  omega
theorem str_nums (s : ByteArray) : strOfNums (nums s) = s := by
  apply ByteArray.ext
  apply Array.toList_inj.1
  rw [strOfNums_data]
  unfold nums
  rw [List.map_map]
  conv => rhs; rw [← List.map_id s.data.toList]
  apply List.map_congr_left
  intro b _
  show UInt8.ofNat ((b.toNat : Int)).toNat = b
  rw [Int.toNat_natCast]
  exact UInt8.ofNat_toNat
theorem str_app (a b : List Int) : strOfNums a ++ strOfNums b = strOfNums (a ++ b) := by
  apply ByteArray.ext
  apply Array.toList_inj.1
  rw [strOfNums_data, ByteArray.data_append, Array.toList_append, strOfNums_data, strOfNums_data, List.map_append]

theorem conv1 (w : World) (x : Int) : (convert 26 9 (.slice (some ⟨w.heap.size, 0, none⟩) 1 1)).run Tryd.prog (w.alloc (.cells #[.int .u8 x] 5)) = .ok (.string (strOfNums [x])) (w.alloc (.cells #[.int .u8 x] 5)) := by
  refine run_convert_bytes_arg _ 26 5 (by kernel_rfl) (by kernel_rfl) _ _ 1 1 [x] rfl ?_ 9 (by kernel_rfl)
  intro i hi
  obtain rfl : i = 0 := by omega
  unfold World.cell?; rw [heap_alloc_new]; rfl

theorem uv_len : ∀ (n x : Nat), x < 128 ^ (n + 1) → (uvL x).length ≤ n + 1
  | 0, x, h => by rw [uvL_last (by omega)]; exact Nat.le_refl _
  | n + 1, x, h => by
    by_cases hx : x < 128
    · rw [uvL_last hx]; simp
    · rw [uvL_more (by omega), List.length_cons]
      have := uv_len n (x / 128) (by rw [Nat.pow_succ] at h; exact Nat.div_lt_of_lt_mul (by rw [Nat.mul_comm]; exact h))
      omega
theorem uv_len10 {x : Nat} (h : x < 18446744073709551616) : (uvL x).length ≤ 10 := uv_len 9 x (Nat.lt_of_lt_of_le h (by decide))

set_option maxRecDepth 100000 in
set_option maxHeartbeats 1000000 in
theorem refUint_any (x : Nat) (w : World) (hx : x < 18446744073709551616) : Calls Tryd.prog 35 #[.int .u64 x] w fun e w' => e = .returned (.string (strOfNums (uvL x))) ∧ Below w.heap.size w w' := by
  have HV := Lib.hid (show ∀ ys : List Int, ys = uvL x → Value.string (strOfNums ys) = .string (strOfNums (uvL x)) from fun ys h => by rw [h])
  have hl := uv_len10 hx
  generalize Value.string (strOfNums (uvL x)) = V at *
  go_enter Tryd.func35, Tryd.ntmps35
  go_wp2
  go_loopw [0, 3] (fun v s wr => ∃ (y : Nat) (ys : List Int) (t : ByteArray), v = .int .u64 y ∧ s = .string t ∧ Hid (t = strOfNums ys ∧ uvL x = ys ++ uvL y ∧ y < 18446744073709551616 ∧ Below w.heap.size w wr)) (fun v _ _ => (intOf v).toNat)
  case atStart => exact ⟨x, [], _, rfl, rfl, rfl, rfl, hx, Below.refl _ _⟩
  case round =>
    obtain ⟨y, ys, t, rfl, rfl, hh⟩ := hrel
    have hsz := hh.out.2.2.2.size
    have hy := hh.out.2.2.1
    have ht : t.size ≤ 10 := by
      have h1 := congrArg List.length hh.out.2.1
      rw [List.length_append] at h1
      rw [hh.out.1, strOfNums_size]; omega
    have kconv := conv1
    have ksz : ∀ x : Int, (strOfNums [x]).size = 1 := fun x => strOfNums_size [x]
    by_cases h : 128 ≤ y
    · have h' : (127 : Int) < (y : Int) := by omega
      go_wp2
      go_roundw
      case rel => first | exact ⟨y / 128, ys ++ [(y : Int) % 128 + 128], by omega, by rw [hh.out.1, str_app], by rw [hh.out.2.1, uvL_more h, List.append_assoc]; rfl, by omega, hh.out.2.2.2.alloc hsz _⟩ | exact ⟨y / 128, ys ++ [(y : Int) % 128 + 128], _, by go_num, rfl, by rw [hh.out.1, str_app], by rw [hh.out.2.1, uvL_more h, List.append_assoc]; rfl, by omega, hh.out.2.2.2.alloc hsz _⟩
      case measure => simp [intOf]; omega
    · have h' : ¬ (127 : Int) < (y : Int) := by omega
      have h2 : (y : Int) % 256 = y := by omega
      go_wp2
      go_ret
      exact ⟨by rw [← HV.out (ys ++ [(y : Int)]) (by rw [hh.out.2.1, uvL_last (by omega)]), ← str_app, ← hh.out.1]; rfl, hh.out.2.2.2.alloc hsz _⟩

set_option maxRecDepth 100000 in
theorem refInt_any (x : Int) (w : World) (hx : -9223372036854775808 ≤ x ∧ x ≤ 9223372036854775807) : Calls Tryd.prog 36 #[.int .i64 x] w fun e w' => e = .returned (.string (strOfNums (uvL (zig x)))) ∧ Below w.heap.size w w' := by
  have a1 := fun w => refUint_any (zig x) w (zig_lt hx)
  by_cases h : x < 0
  · have e : ((zig x : Nat) : Int) = 2 * (-(x + 1)) + 1 := by unfold zig; rw [if_pos h]; omega
    generalize strOfNums (uvL (zig x)) = t at *
    rw [e] at a1
    go_enter Tryd.func36, Tryd.ntmps36
    go_wp2_with fail
    refine (a1 _).mono ?_
    rintro e' w' ⟨rfl, hb⟩
    go_wp2
    go_ret
    exact ⟨rfl, hb⟩
  · have e : ((zig x : Nat) : Int) = 2 * x := by unfold zig; rw [if_neg h]; omega
    generalize strOfNums (uvL (zig x)) = t at *
    rw [e] at a1
    go_enter Tryd.func36, Tryd.ntmps36
    go_wp2_with fail
    refine (a1 _).mono ?_
    rintro e' w' ⟨rfl, hb⟩
    go_wp2
    go_ret
    exact ⟨rfl, hb⟩

theorem ownsB_below {w w' : World} {base : Nat} {e : TypeId} {v : Value} {xs : List Int} (h : ownsB w base e v xs) (hb : Below w.heap.size w w') : ownsB w' base e v xs :=
  World.ownsRow.kept (row := none) h ⟨hb.os, hb.tape, hb.output, hb.size, fun k hk _ => hb.block k hk⟩ (by cases hv : v.ownBlock <;> simp)

/-- What one byte behind leaves: the plain form, for a slice in a slot. -/
theorem grown_below {w w1 : World} {B : Nat} {e : TypeId} {v : Value} {xs : List Int} (h : ownsB w B e v xs) (hg : w.grownBy w1 v.ownBlock) (hB : B ≤ w.heap.size) : Below B w w1 :=
  (Below.refl _ _).grown hg hB (fun k hk => (World.ownsRow.lt h k hk).1)

set_option maxRecDepth 100000 in
set_option maxHeartbeats 1000000 in
theorem refLow_any (x n : Nat) (w : World) (hx : x < 18446744073709551616) (hn : n ≤ 8) : Calls Tryd.prog 38 #[.int .u64 x, .int .i64 n] w fun e w' => e = .returned (.string (strOfNums (lowL x n))) ∧ Below w.heap.size w w' := by
  have HV := Lib.hid (show ∀ ys : List Int, ys = lowL x n → Value.string (strOfNums ys) = .string (strOfNums (lowL x n)) from fun ys h => by rw [h])
  generalize Value.string (strOfNums (lowL x n)) = V at *
  go_enter Tryd.func38, Tryd.ntmps38
  go_wp2
  go_loopw [0, 5, 6] (fun v s i wr => ∃ (y k : Nat) (ys : List Int), v = .int .u64 y ∧ i = .int .i64 k ∧ k ≤ n ∧ Hid (ownsB wr w.heap.size 5 s ys ∧ lowL x n = ys ++ lowL y (n - k) ∧ y < 18446744073709551616 ∧ Below w.heap.size w wr)) (fun _ _ i _ => n - (intOf i).toNat)
  case atStart => exact ⟨x, 0, [], rfl, rfl, Nat.zero_le _, World.ownsRow_nil _ _ _ _, rfl, hx, Below.refl _ _⟩
  case round =>
    obtain ⟨y, k, ys, rfl, rfl, hk, hh⟩ := hrel
    have hsz := hh.out.2.2.2.size
    have hy := hh.out.2.2.1
    by_cases h : k < n
    · have hlen : ys.length + 1 ≤ 140737488355328 := by
        have := congrArg List.length hh.out.2.1
        rw [List.length_append, lowL_length, lowL_length] at this; omega
      have hown := hh.out.1
      have HQ := Lib.hid (show lowL x n = (ys ++ [((y % 256 : Nat) : Int)]) ++ lowL (y / 256) (n - (k + 1)) by
        rw [hh.out.2.1, show n - k = (n - (k + 1)) + 1 by omega, List.append_assoc]; rfl)
      go_wp2_with (first | (at_builtin; refine append_one rfl _ _ 26 rfl w.heap.size 5 Tryd.underlying26 info5 _ _ rfl hown _ rfl hlen hsz ?_))
      intro q cap w1 ho hgr hat
      have HG := Lib.hid (hh.out.2.2.2.trans (grown_below hown hgr hsz))
      have HO := Lib.hid ho
      clear hown ho hgr hat
      go_wp2
      go_roundw
      case rel => exact ⟨y / 256, k + 1, _, by go_num, by go_num, by omega, HO.out, HQ.out, by omega, HG.out⟩
      case measure => simp [intOf]; omega
    · obtain rfl : k = n := by omega
      have kc := convert_own (P := Tryd.prog) (src := 26) (dst := 9) hh.out.1 Tryd.underlying26 Tryd.underlying5 Tryd.underlying9
      go_wp2
      go_ret
      exact ⟨by rw [← HV.out ys (by rw [hh.out.2.1, Nat.sub_self]; simp [lowL])]; rfl, hh.out.2.2.2⟩

theorem and_exp (b : Nat) : b &&& 2139095040 = b / 8388608 % 256 * 8388608 := by
  have h : b &&& (255 <<< 23) = ((b >>> 23) &&& 255) <<< 23 := by
    apply Nat.eq_of_testBit_eq
    intro i
    simp only [Nat.testBit_and, Nat.testBit_shiftLeft, Nat.testBit_shiftRight]
    by_cases hi : 23 ≤ i
    · rw [show 23 + (i - 23) = i by omega]; simp [hi]
    · simp [hi]
  rw [show (255 <<< 23 : Nat) = 2139095040 from rfl] at h
  rw [h, show (255 : Nat) = 2 ^ 8 - 1 from rfl, Nat.and_two_pow_sub_one_eq_mod, Nat.shiftRight_eq_div_pow, Nat.shiftLeft_eq]
theorem and_frac (b : Nat) : b &&& 8388607 = b % 8388608 := Nat.and_two_pow_sub_one_eq_mod b 23
theorem nan_exp {b : Nat} (h : ((b / 8388608 % 256 * 8388608 : Nat) : Int) = 2139095040) : nan32 b = (((b % 8388608 : Nat) : Int) != 0) := by
  unfold nan32 bne
  by_cases h0 : b % 8388608 = 0
  · rw [decide_eq_false (by omega), h0]; rfl
  · rw [decide_eq_true (by omega)]
    have : ((((b % 8388608 : Nat)) : Int) == 0) = false := by simp; omega
    rw [this]; rfl
theorem nan_not {b : Nat} (h : ¬ ((b / 8388608 % 256 * 8388608 : Nat) : Int) = 2139095040) : nan32 b = false := by
  unfold nan32
  exact decide_eq_false (by omega)
theorem u32_exp (b : Nat) (hb : b < 4294967296) : bits .and .u32 (b : Int) 2139095040 = ((b / 8388608 % 256 * 8388608 : Nat) : Int) := by
  have := u32_and_nat b 2139095040 hb (by decide)
  rw [and_exp] at this
  exact this
theorem u32_frac (b : Nat) (hb : b < 4294967296) : bits .and .u32 (b : Int) 8388607 = ((b % 8388608 : Nat) : Int) := by
  have := u32_and_nat b 8388607 hb (by decide)
  rw [and_frac] at this
  exact this

set_option maxRecDepth 100000 in
theorem isNaN_any (b : Nat) (w : World) (hb : b < 4294967296) : Calls Tryd.prog 65 #[.int .u32 b] w fun e w' => e = .returned (.bool (nan32 b)) ∧ w' = w := by
  have k1 := u32_exp b hb
  have k2 := u32_frac b hb
  by_cases h : ((b / 8388608 % 256 * 8388608 : Nat) : Int) = 2139095040
  · rw [nan_exp h]
    rw [h] at k1
    clear h
    generalize ((b % 8388608 : Nat) : Int) = m at *
    go_enter Tryd.func65, Tryd.ntmps65
    go_wp2
    go_ret
    exact ⟨rfl, rfl⟩
  · rw [nan_not h]
    generalize ((b / 8388608 % 256 * 8388608 : Nat) : Int) = m at *
    clear k2
    have h' : (m == 2139095040) = false := by simpa using h
    clear h
    go_enter Tryd.func65, Tryd.ntmps65
    go_wp2
    go_ret
    exact ⟨rfl, rfl⟩

set_option maxRecDepth 100000 in
theorem refFloat_any (b : Nat) (w : World) (hb : b < 4294967296) : Calls Tryd.prog 41 #[.int .u32 b] w fun e w' => e = .returned (.string (strOfNums (lowL (fbits b) 4))) ∧ Below w.heap.size w w' := by
  have a1 := fun w => isNaN_any b w hb
  have a2 := fun w => refLow_any (fbits b) 4 w (by unfold fbits; split <;> omega) (by decide)
  generalize strOfNums (lowL (fbits b) 4) = t at *
  unfold fbits at a2
  cases h : nan32 b
  · rw [h] at a1 a2
    simp only [Bool.false_eq_true, if_false] at a2
    go_enter Tryd.func41, Tryd.ntmps41
    go_wp2_with fail
    refine (a1 _).mono ?_
    rintro e w' ⟨rfl, rfl⟩
    go_wp2_with fail
    refine (a2 _).mono ?_
    rintro e w' ⟨rfl, hb⟩
    go_wp2
    go_ret
    exact ⟨rfl, hb⟩
  · rw [h] at a1 a2
    simp only [if_true] at a2
    go_enter Tryd.func41, Tryd.ntmps41
    go_wp2_with fail
    refine (a1 _).mono ?_
    rintro e w' ⟨rfl, rfl⟩
    go_wp2_with fail
    refine (a2 _).mono ?_
    rintro e w' ⟨rfl, hb⟩
    go_wp2
    go_ret
    exact ⟨rfl, hb⟩

set_option maxRecDepth 100000 in
theorem refText_any (s : ByteArray) (w : World) (hs : s.size ≤ 140737488355328) : Calls Tryd.prog 43 #[.string s] w fun e w' => e = .returned (.string (strOfNums (textL s))) ∧ Below w.heap.size w w' := by
  have a1 := fun w => refUint_any s.size w (by omega)
  have e1 : strOfNums (textL s) = strOfNums (uvL s.size) ++ s := by
    unfold textL; rw [← str_app, str_nums]
  have hz : (strOfNums (uvL s.size)).size ≤ 10 := by rw [strOfNums_size]; exact uv_len10 (by omega)
  rw [e1]
  generalize strOfNums (uvL s.size) = t at *
  clear e1
  go_enter Tryd.func43, Tryd.ntmps43
  go_wp2_with fail
  refine (a1 _).mono ?_
  rintro e w' ⟨rfl, hb⟩
  go_wp2
  go_ret
  exact ⟨rfl, hb⟩

/-- A slice of texts that came in. -/
def Sl (w : World) (A : Option Addr) (n : Nat) (f : Nat → Value) : Prop :=
  0 < n → ∃ g o, A = some ⟨g, o, none⟩ ∧ g < w.heap.size ∧ ∀ i, i < n → w.cell? ⟨g, o + i, none⟩ = some (f i)

set_option maxRecDepth 100000 in
set_option maxHeartbeats 1000000 in
theorem refTexts_any (A : Option Addr) (n c : Nat) (ss : Nat → ByteArray) (w : World) (hA : Sl w A n (fun i => .string (ss i))) (hn : n < 9223372036854775808) (hl : (textsL ss n).length ≤ 140737488355328) :
    Calls Tryd.prog 44 #[.slice A n c] w fun e w' => e = .returned (.string (strOfNums (textsL ss n))) ∧ Below w.heap.size w w' := by
  have HV := Lib.hid (show ∀ ys : List Int, ys = textsL ss n → Value.string (strOfNums ys) = .string (strOfNums (textsL ss n)) from fun ys h => by rw [h])
  generalize Value.string (strOfNums (textsL ss n)) = V at *
  have a1 := fun w => refUint_any n w (by omega)
  have HA := Lib.hid hA; clear hA
  have hlen : ∀ k, k ≤ n → (uvL n ++ tsL ss k).length ≤ 140737488355328 := fun k hk => by
    have h2 := tsL_mono ss hk
    unfold textsL at hl
    rw [List.length_append] at hl ⊢
    omega
  have HL := Lib.hid hlen; clear hlen hl
  have hn0 := HL.out 0 (Nat.zero_le _)
  go_enter Tryd.func44, Tryd.ntmps44
  go_wp2_with fail
  refine (a1 _).mono ?_
  rintro e w1 ⟨rfl, hb1⟩
  have HB1 := Lib.hid hb1; clear hb1
  have hsz1 := HB1.out.size
  have hz : ([] : List Int).length + (strOfNums (uvL n)).size ≤ 140737488355328 := by rw [strOfNums_size, List.length_nil, Nat.zero_add]; rw [List.length_append] at hn0; omega
  go_wp2_with (first | (at_builtin; refine append_text rfl _ _ 26 9 rfl w.heap.size 5 Tryd.underlying26 Tryd.underlying9 info5 _ [] rfl (World.ownsRow_nil _ _ _ _) _ rfl hz hsz1 ?_))
  intro v' w2 ho hgr _
  have hu : ([] : List Int) ++ nums (strOfNums (uvL n)) = uvL n ++ tsL ss 0 := by rw [nums_str (byteL_uv n)]; simp [tsL]
  have ho2 : ownsB w2 w.heap.size 5 v' (uvL n ++ tsL ss 0) := by rw [← hu]; exact ho
  have HO := Lib.hid ho2
  have HB2 := Lib.hid (HB1.out.trans ((Below.refl _ _).grown hgr hsz1 (fun k hk => by simp [Value.ownBlock] at hk)))
  clear ho hgr ho2 hu hz
  go_wp2_with fail
  go_loopw [3, 4] (fun s i wr => ∃ k : Nat, i = .int .i64 k ∧ k ≤ n ∧ Hid (ownsB wr w.heap.size 5 s (uvL n ++ tsL ss k) ∧ Below w.heap.size w wr)) (fun _ i _ => n - (intOf i).toNat)
  case atStart => exact ⟨0, rfl, Nat.zero_le _, HO.out, HB2.out⟩
  case round =>
    obtain ⟨k, rfl, hk, hh⟩ := hrel
    have hsz := hh.out.2.size
    by_cases h : k < n
    · obtain ⟨b, o, rfl, hb, hc⟩ := HA.out (by omega)
      have e1 : wr.cell? ⟨b, o + k, none⟩ = some (.string (ss k)) := (hh.out.2.cell (by exact hb)).trans (hc k h)
      have HC := Lib.hid hc; clear hc
      have hl1 := HL.out (k + 1) (by omega)
      have hl2 : (uvL n ++ tsL ss k).length + (strOfNums (textL (ss k))).size ≤ 140737488355328 := by
        rw [strOfNums_size]
        have : (uvL n ++ tsL ss (k + 1)).length = (uvL n ++ tsL ss k).length + (textL (ss k)).length := by
          show (uvL n ++ (tsL ss k ++ textL (ss k))).length = _
          rw [← List.append_assoc, List.length_append]
        omega
      have hsk : (ss k).size ≤ 140737488355328 := by
        rw [strOfNums_size] at hl2
        have : (ss k).size ≤ (textL (ss k)).length := by unfold textL; rw [List.length_append, nums_length]; omega
        omega
      have a2 := fun w => refText_any (ss k) w hsk
      clear hl1
      go_wp2_with fail
      refine (a2 _).mono ?_
      rintro e w3 ⟨rfl, hb3⟩
      have HB3 := Lib.hid (hh.out.2.trans (hb3.mono hsz))
      have hsz3 := HB3.out.size
      have hown := ownsB_below hh.out.1 hb3
      clear hb3
      go_wp2_with (first | (at_builtin; refine append_text rfl _ _ 26 9 rfl w.heap.size 5 Tryd.underlying26 Tryd.underlying9 info5 _ _ rfl hown _ rfl hl2 hsz3 ?_))
      intro v2 w4 ho hgr _
      have hg4 := HB3.out.trans (grown_below hown hgr hsz3)
      have hu : uvL n ++ tsL ss k ++ nums (strOfNums (textL (ss k))) = uvL n ++ tsL ss (k + 1) := by
        rw [nums_str (byteL_text _), List.append_assoc]; rfl
      have ho2 : ownsB w4 w.heap.size 5 v2 (uvL n ++ tsL ss (k + 1)) := by
        rw [← hu]
        unfold nums
        first | exact ho | (rw [List.append_assoc]; exact ho)
      have HO2 := Lib.hid ho2; have HG4 := Lib.hid hg4
      clear ho hgr ho2 hu hown hg4
      go_wp2
      go_roundw
      case rel => exact ⟨k + 1, by go_num, by omega, HO2.out, HG4.out⟩
      case measure => simp [intOf]; omega
    · obtain rfl : k = n := by omega
      have kc := convert_own (P := Tryd.prog) (src := 26) (dst := 9) hh.out.1 Tryd.underlying26 Tryd.underlying5 Tryd.underlying9
      go_wp2
      go_ret
      exact ⟨by rw [← HV.out _ rfl]; rfl, hh.out.2⟩
end Go.Proofs.YtnodjcapclkmhaaDoor
