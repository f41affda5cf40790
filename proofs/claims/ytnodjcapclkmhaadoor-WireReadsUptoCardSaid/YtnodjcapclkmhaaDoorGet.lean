/- The document's readings: GetUint, GetUpto, GetInt: walked. -/
import Derived.Test.YtnodjcapclkmhaaDoorReader9
namespace Go.Proofs.YtnodjcapclkmhaaDoor
open Go.RowKit

/-- A reading's three results. -/
def g3 {α : Type} (z : Value) (f : α → Value) (p : Nat) : Except Nat (α × Nat) → Value
  | .ok (x, q) => .tuple #[f x, .int .i64 q, .int .i64 0]
  | .error e => .tuple #[z, .int .i64 p, .int .i64 e]
abbrev gU (p : Nat) (r : Except Nat (Nat × Nat)) : Value := g3 (.int .u64 0) (fun x => .int .u64 (x : Nat)) p r

set_option maxRecDepth 100000 in
set_option maxHeartbeats 2000000 in
theorem getUint_any (s : ByteArray) (p : Nat) (w : World) (hp : p ≤ s.size) (hs : s.size ≤ 9223372036854770000) :
    Calls Tryd.prog 51 #[.string s, .int .i64 p] w fun e w' => e = .returned (gU p (uG s p 0 0)) ∧ w = w' := by
  go_enter Tryd.func51, Tryd.ntmps51
  go_wp2
  go_loop [7, 8, 9] (fun vx vi _ => ∃ (i x : Nat), vx = .int .u64 x ∧ vi = .int .i64 i ∧ i ≤ 9 ∧ Hid (x < 2 ^ (7 * i)) ∧ p + i ≤ s.size ∧ Hid (uG s p 0 0 = uG s p i x)) (fun _ vi _ => 10 - (intOf vi).toNat)
  case atStart => exact ⟨0, 0, rfl, rfl, by omega, (by decide : 0 < 1), by omega, rfl⟩
  case round =>
    obtain ⟨i, x, rfl, rfl, hi, hx, hpi, HU⟩ := hrel
    by_cases h : p + i < s.size
    · have hm : ¬ (s.size : Int) ≤ (p : Int) + (i : Int) := by omega
      have hb8 := byt_lt s (p + i)
      have kix := fun w : World => index_str s p i w h
      have hug := uG_at s p i x h
      rw [← HU.out] at hug
      generalize byt s (p + i) = b at *
      have HUG := Lib.hid hug; clear hug
      have hor := or_join x b i hx.out hi
      have HHOR := Lib.hid hor; clear hor
      by_cases h9 : i = 9
      · subst h9
        have h9' : (((9 : Nat) : Int) == 9) = true := rfl
        rw [show ((9 : Nat) : Int) = 9 from rfl] at kix
        cases hb1 : decide ((1 : Int) < (b : Int)) with
        | true =>
          have hb1' := of_decide_eq_true hb1
          have HRES := Lib.hid (HUG.out.trans (if_pos ⟨rfl, by omega⟩))
          go_wp2
          go_ret3
          rw [HRES.out]
          exact ⟨rfl, rfl⟩
        | false =>
          have hb1' := of_decide_eq_false hb1
          have hb2 : b = 0 ∨ b = 1 := by omega
          rcases hb2 with rfl | rfl
          · have HRES := Lib.hid (HUG.out.trans ((if_neg (by omega)).trans ((if_pos (by decide)).trans (if_pos ⟨rfl, by decide⟩))))
            go_wp2
            go_ret3
            rw [HRES.out]
            exact ⟨rfl, rfl⟩
          · have HRES := Lib.hid (HUG.out.trans ((if_neg (by omega)).trans ((if_pos (by decide)).trans (if_neg (by omega)))))
            go_wp2
            go_ret3
            rw [HRES.out]
            exact ⟨by
              show Ending.returned _ = Ending.returned (.tuple #[.int .u64 ((x + 1 % 128 * 2 ^ (7 * 9) : Nat) : Int), .int .i64 ((p + 9 + 1 : Nat) : Int), .int .i64 0])
              rw [← (HHOR.out (fun _ => Nat.le_refl 1)).1]; rfl, rfl⟩
      · have h9' : ((i : Int) == 9) = false := by simp; omega
        have h9n : ¬ (i : Int) = 9 := by omega
        have HOR := Lib.hid (HHOR.out (fun h => absurd h h9)).1
        cases hb7 : decide ((b : Int) < 128) with
        | false =>
          have hb7' := of_decide_eq_false hb7
          have HRES := Lib.hid (HUG.out.trans ((if_neg (fun h => h9 h.1)).trans (if_neg (by omega))))
          go_wp2
          go_round
          case rel => exact ⟨i + 1, _, by rw [HOR.out], by go_num, by omega, (HHOR.out (fun h => absurd h h9)).2.1, by omega, HRES.out⟩
          case measure => simp [intOf]; omega
        | true =>
          have hb7' := of_decide_eq_true hb7
          cases hb0 : ((b : Int) == 0) with
          | true =>
            obtain rfl : b = 0 := by have := beq_iff_eq.1 hb0; omega
            by_cases hi0 : 0 < i
            · have hi0' : (0 : Int) < (i : Int) := by omega
              have HRES := Lib.hid (HUG.out.trans ((if_neg (fun h => h9 h.1)).trans ((if_pos (by omega)).trans (if_pos ⟨rfl, hi0⟩))))
              go_wp2
              go_ret3
              rw [HRES.out]
              exact ⟨rfl, rfl⟩
            · have HRES := Lib.hid (HUG.out.trans ((if_neg (fun h => h9 h.1)).trans ((if_pos (by omega)).trans (if_neg (fun h => hi0 h.2)))))
              have hi0' : ¬ (0 : Int) < (i : Int) := by omega
              have hor0 : bits .or .u64 (x : Int) 0 = (x : Int) := by
                have h1 := u64_or_nat x 0 (by have := (HHOR.out (fun h => absurd h h9)).2.2; omega) (by decide)
                rw [Nat.or_zero] at h1
                exact h1
              go_wp2
              go_ret3
              rw [HRES.out]
              exact ⟨by
                show Ending.returned _ = Ending.returned (.tuple #[.int .u64 ((x + 0 % 128 * 2 ^ (7 * i) : Nat) : Int), .int .i64 ((p + i + 1 : Nat) : Int), .int .i64 0])
                rw [show x + 0 % 128 * 2 ^ (7 * i) = x by simp]; rfl, rfl⟩
          | false =>
            have b0 : b ≠ 0 := by rintro rfl; cases hb0
            have HRES := Lib.hid (HUG.out.trans ((if_neg (fun h => h9 h.1)).trans ((if_pos (by omega)).trans (if_neg (fun h => b0 h.1)))))
            go_wp2
            go_ret3
            rw [HRES.out]
            exact ⟨by
              show Ending.returned _ = Ending.returned (.tuple #[.int .u64 ((x + b % 128 * 2 ^ (7 * i) : Nat) : Int), .int .i64 ((p + i + 1 : Nat) : Int), .int .i64 0])
              rw [← HOR.out]; rfl, rfl⟩
    · have hm : (s.size : Int) ≤ (p : Int) + (i : Int) := by omega
      have hres : uG s p 0 0 = .error 1 := by rw [HU.out, uG, dif_neg h]
      have HRES := Lib.hid hres; clear hres
      go_wp2
      go_ret3
      rw [HRES.out]
      exact ⟨rfl, rfl⟩
theorem g3_three {α : Type} (z : Value) (f : α → Value) (p : Nat) (r : Except Nat (α × Nat)) : ∃ a b c, g3 z f p r = .tuple #[a, b, c] := by
  cases r with
  | error e => exact ⟨_, _, _, rfl⟩
  | ok x => exact ⟨_, _, _, rfl⟩

set_option maxRecDepth 100000 in
set_option maxHeartbeats 1000000 in
theorem getUpto_any (s : ByteArray) (p : Nat) (n : Int) (w : World) (hp : p ≤ s.size) (hs : s.size ≤ 9223372036854770000) (hn : -9223372036854775808 ≤ n ∧ n ≤ 9223372036854775807) :
    Calls Tryd.prog 52 #[.string s, .int .i64 p, .int .i64 n] w fun e w' => e = .returned (g3 (.int .i64 0) (fun x => .int .i64 (x : Nat)) p (upG s p n)) ∧ w = w' := by
  have a1 := getUint_any s p w hp hs
  have hn1 := hn.1; have hn2 := hn.2
  clear hn
  unfold upG
  cases hu : uG s p 0 0 with
  | error e =>
    rw [hu] at a1
    simp only [gU, g3] at a1 ⊢
    have he : ((e : Int) != 0) = true := by rcases uG_err hu with rfl | rfl <;> rfl
    have he2 : ¬ (e : Int) = 0 := by rcases uG_err hu with rfl | rfl <;> omega
    clear hu
    go_enter Tryd.func52, Tryd.ntmps52
    go_wp2_with fail
    refine a1.mono ?_
    rintro e w' ⟨rfl, rfl⟩
    go_wp2
    go_ret3
    exact ⟨rfl, rfl⟩
  | ok y =>
    obtain ⟨x, q⟩ := y
    obtain ⟨hx, _, _⟩ := uG_ok hu
    rw [hu] at a1
    simp only [gU, g3] at a1
    simp only []
    clear hu
    by_cases h : n < (x : Int)
    · simp only [if_pos h, g3]
      by_cases h0 : n < 0
      · go_enter Tryd.func52, Tryd.ntmps52
        go_wp2_with fail
        refine a1.mono ?_
        rintro e w' ⟨rfl, rfl⟩
        go_wp2
        go_ret3
        exact ⟨rfl, rfl⟩
      · have kn : IntKind.u64.wrap n = n := by rw [IntKind.wrap_u64]; omega
        go_enter Tryd.func52, Tryd.ntmps52
        go_wp2_with fail
        refine a1.mono ?_
        rintro e w' ⟨rfl, rfl⟩
        go_wp2
        go_ret3
        exact ⟨rfl, rfl⟩
    · simp only [if_neg h, g3]
      have h0 : ¬ n < 0 := by omega
      have kn : IntKind.u64.wrap n = n := by rw [IntKind.wrap_u64]; omega
      go_enter Tryd.func52, Tryd.ntmps52
      go_wp2_with fail
      refine a1.mono ?_
      rintro e w' ⟨rfl, rfl⟩
      go_wp2
      go_ret3
      exact ⟨rfl, rfl⟩

set_option maxRecDepth 100000 in
set_option maxHeartbeats 1000000 in
theorem getInt_any (s : ByteArray) (p : Nat) (w : World) (hp : p ≤ s.size) (hs : s.size ≤ 9223372036854770000) :
    Calls Tryd.prog 54 #[.string s, .int .i64 p] w fun e w' => e = .returned (g3 (.int .i64 0) (fun x => .int .i64 x) p (mapG unz (uG s p 0 0))) ∧ w = w' := by
  have a1 := getUint_any s p w hp hs
  cases hu : uG s p 0 0 with
  | error e =>
    rw [hu] at a1
    simp only [gU, g3] at a1
    simp only [mapG, g3]
    have he : ((e : Int) != 0) = true := by rcases uG_err hu with rfl | rfl <;> rfl
    have he2 : ¬ (e : Int) = 0 := by rcases uG_err hu with rfl | rfl <;> omega
    clear hu
    go_enter Tryd.func54, Tryd.ntmps54
    go_wp2_with fail
    refine a1.mono ?_
    rintro e w' ⟨rfl, rfl⟩
    go_wp2
    go_ret3
    exact ⟨rfl, rfl⟩
  | ok y =>
    obtain ⟨x, q⟩ := y
    obtain ⟨hx, _, _⟩ := uG_ok hu
    rw [hu] at a1
    simp only [gU, g3] at a1
    simp only [mapG, g3]
    clear hu
    unfold unz
    have e2 : ((x / 2 : Nat) : Int) = (x : Int) / 2 := by omega
    rw [e2]
    clear e2
    by_cases h : x % 2 = 1
    · rw [if_pos h]
      have h' : ((x : Int) % 2 == 1) = true := by simp; omega
      clear h
      go_enter Tryd.func54, Tryd.ntmps54
      go_wp2_with fail
      refine a1.mono ?_
      rintro e w' ⟨rfl, rfl⟩
      go_wp2
      go_ret3
      exact ⟨rfl, rfl⟩
    · rw [if_neg h]
      have h' : ((x : Int) % 2 == 1) = false := by simp; omega
      clear h
      go_enter Tryd.func54, Tryd.ntmps54
      go_wp2_with fail
      refine a1.mono ?_
      rintro e w' ⟨rfl, rfl⟩
      go_wp2
      go_ret3
      exact ⟨rfl, rfl⟩
end Go.Proofs.YtnodjcapclkmhaaDoor
