/- money.Split of whatever comes in: refused, or the shares: walked. -/
import Derived.Test.YthkobjbemmllfaaGreatDoorSplit
import Derived.Test.YthkobjbemmllfaaGreatDoorSortG
import Derived.Test.YthkobjbemmllfaaGreatDoorDivG
import Derived.Test.YthkobjbemmllfaaGreatDoorSums
namespace Go.Proofs.YthkobjbemmllfaaGreatDoor
theorem nsum_congr {f g : Nat → Nat} : ∀ n, (∀ i, i < n → f i = g i) → nsum f n = nsum g n
  | 0, _ => rfl
  | n + 1, h => by rw [nsum_succ, nsum_succ, nsum_congr n fun i hi => h i (by omega), h n (by omega)]
theorem nsum_add (f g : Nat → Nat) : ∀ n, nsum (fun x => f x + g x) n = nsum f n + nsum g n
  | 0 => rfl
  | n + 1 => by rw [nsum_succ, nsum_succ, nsum_succ, nsum_add f g n]; omega
theorem nsum_le_mul {f g : Nat → Nat} {c : Nat} : ∀ n, (∀ i, i < n → f i ≤ c * g i) → nsum f n ≤ c * nsum g n
  | 0, _ => Nat.le_refl _
  | n + 1, h => by
    have := nsum_le_mul n fun i hi => h i (by omega)
    have := h n (by omega)
    rw [nsum_succ, nsum_succ, Nat.mul_add]
    omega
theorem nsum_one_more {f g : Nat → Nat} {p : Nat} : ∀ n, (∀ i, i < n → g i = f i + if i = p then 1 else 0) → nsum g n = nsum f n + if p < n then 1 else 0
  | 0, _ => by simp [nsum]
  | n + 1, h => by
    rw [nsum_succ, nsum_succ, nsum_one_more n fun i hi => h i (by omega), h n (by omega)]
    by_cases h1 : n = p
    · subst h1; simp; omega
    · rw [if_neg h1]
      by_cases h2 : p < n
      · rw [if_pos h2, if_pos (by omega)]; omega
      · rw [if_neg h2, if_neg (by omega)]; omega
theorem nsum_full {f : Nat → Nat} : ∀ n, (∀ i, i < n → f i ≤ 1) → nsum f n = n → ∀ i, i < n → f i = 1
  | 0, _, _ => fun i hi => by omega
  | n + 1, h, e => fun i hi => by
    have h1 := nsum_le (N := n) (fun j hj => h j (by omega)) n (Nat.le_refl _)
    have h2 := h n (by omega)
    rw [nsum_succ] at e
    rcases Nat.lt_or_ge i n with h3 | h3
    · exact nsum_full n (fun j hj => h j (by omega)) (by omega) i h3
    · obtain rfl : i = n := by omega
      omega
theorem among_le (ord : Nat → Nat) : ∀ k x, among ord k x ≤ 1
  | 0, _ => Nat.zero_le _
  | k + 1, x => by
    unfold among; split
    · exact Nat.le_refl _
    · exact among_le ord k x
theorem among_of (ord : Nat → Nat) : ∀ {k i}, i < k → among ord k (ord i) = 1
  | k + 1, i, h => by
    unfold among
    by_cases e : ord k = ord i
    · rw [if_pos e]
    · rw [if_neg e]
      exact among_of ord (by have : i ≠ k := fun h => e (by rw [h]); omega)
theorem among_src (ord : Nat → Nat) : ∀ {k x}, among ord k x ≠ 0 → ∃ i, i < k ∧ ord i = x
  | 0, x, h => absurd rfl h
  | k + 1, x, h => by
    unfold among at h
    by_cases e : ord k = x
    · exact ⟨k, by omega, e⟩
    · rw [if_neg e] at h
      obtain ⟨i, h1, h2⟩ := among_src ord h
      exact ⟨i, by omega, h2⟩
section
variable {R : Nat → Nat} {n : Nat} {ord : Nat → Nat}
theorem among_sum (h : IsOrd R n ord) : ∀ k, k ≤ n → nsum (among ord k) n = k
  | 0, _ => by
    have := nsum_le (f := among ord 0) (M := 0) (N := n) (fun _ _ => Nat.le_refl _) n (Nat.le_refl _)
    omega
  | k + 1, hk => by
    have e := nsum_one_more (f := among ord k) (g := among ord (k + 1)) (p := ord k) n fun i hi => by
      show (if ord k = i then 1 else among ord k i) = _
      by_cases e : ord k = i
      · rw [if_pos e, if_pos e.symm, ← e, among_none h (by omega) k (Nat.le_refl _)]
      · rw [if_neg e, if_neg (fun h => e h.symm)]
        rfl
    rw [e, among_sum h k (by omega), if_pos (h.lt k (by omega))]
theorem IsOrd.at (h : IsOrd R n ord) {x : Nat} (hx : x < n) : ∃ i, i < n ∧ ord i = x := by
  have := nsum_full n (fun i _ => among_le ord n i) (among_sum h n (Nat.le_refl _)) x hx
  exact among_src ord (by omega)
/-- Who comes ahead of one that gets one more gets one more. -/
theorem among_up (h : IsOrd R n ord) {k x y : Nat} (_ : k ≤ n) (hx : x < n) (hr : R y < R x ∨ R x = R y ∧ x ≤ y) (hy : among ord k y ≠ 0) : among ord k x = 1 := by
  obtain ⟨j, hj, ej⟩ := among_src ord hy
  obtain ⟨i, hi, ei⟩ := h.at hx
  rcases Nat.lt_or_ge i k with hik | hik
  · rw [← ei]; exact among_of ord hik
  · exfalso
    have := h.ord j i (by omega) hi
    rw [ej, ei] at this
    omega
/-- One more goes to none without a rest. -/
theorem among_rest (h : IsOrd R n ord) {k T x : Nat} (hk : k ≤ n) (hT : 0 < T) (hR : ∀ i, i < n → R i < T) (hs : nsum R n = T * k) (hx : among ord k x ≠ 0) : R x ≠ 0 := by
  obtain ⟨j, hj, ej⟩ := among_src ord hx
  intro h0
  have hle : nsum R n ≤ (T - 1) * nsum (among ord j) n := nsum_le_mul n fun y hy => by
    rcases Nat.eq_zero_or_pos (R y) with e | e
    · omega
    · obtain ⟨i, hi, ei⟩ := h.at hy
      have hij : i < j := by
        rcases Nat.lt_trichotomy i j with h' | h' | h'
        · exact h'
        · exfalso; subst h'; rw [ei] at ej; subst ej; omega
        · exfalso
          have := h.ord j i h' hi
          rw [ej, ei] at this
          omega
      rw [← ei, among_of ord hij, ei]
      have := hR y hy
      omega
  rw [among_sum h j (by omega), hs] at hle
  have h1 : (T - 1) * j ≤ T * j := Nat.mul_le_mul_right _ (by omega)
  have h2 : T * (j + 1) ≤ T * k := Nat.mul_le_mul_left _ hj
  rw [Nat.mul_add] at h2
  omega
end

section
variable {a T n : Nat} {ws ord : Nat → Nat}
/-- The shares. -/
def shareN (a T n : Nat) (ws ord : Nat → Nat) (x : Nat) : Nat := qf a T ws x + among ord (a - nsum (qf a T ws) n) x
theorem rests_sum (hT : nsum ws n = T) (h0 : 0 < T) : nsum (rf a T ws) n = T * (a - nsum (qf a T ws) n) := by
  have h := qr_sum a T ws n
  have hq := q_le (a := a) hT h0 n (Nat.le_refl _)
  rw [hT, Nat.mul_comm a T] at h
  rw [Nat.mul_sub]
  omega
theorem share_sum (h : IsOrd (rf a T ws) n ord) (hT : nsum ws n = T) (h0 : 0 < T) : nsum (shareN a T n ws ord) n = a := by
  have e : nsum (shareN a T n ws ord) n = nsum (qf a T ws) n + nsum (among ord (a - nsum (qf a T ws) n)) n := nsum_add _ _ n
  have hq := q_le (a := a) hT h0 n (Nat.le_refl _)
  rw [e, among_sum h _ (left_le hT h0)]
  omega
theorem share_prefix (h : IsOrd (rf a T ws) n ord) (hT : nsum ws n = T) (h0 : 0 < T) {i : Nat} (hi : i < n) : nsum (shareN a T n ws ord) i + shareN a T n ws ord i ≤ a := by
  rw [← nsum_succ]
  have := nsum_mono (shareN a T n ws ord) (m := i + 1) n hi
  rw [share_sum h hT h0] at this
  exact this
theorem share_more (h : IsOrd (rf a T ws) n ord) (hT : nsum ws n = T) (h0 : 0 < T) (x : Nat) : shareN a T n ws ord x = qf a T ws x ∨ shareN a T n ws ord x = qf a T ws x + 1 ∧ rf a T ws x ≠ 0 := by
  have h1 := among_le ord (a - nsum (qf a T ws) n) x
  unfold shareN
  by_cases e : among ord (a - nsum (qf a T ws) n) x = 0
  · left; omega
  · refine .inr ⟨by omega, among_rest h (left_le hT h0) h0 (fun i _ => Nat.mod_lt _ h0) (rests_sum hT h0) e⟩
/-- A share of no more weight, or of the same weight and later, isn't more. -/
theorem share_mono (h : IsOrd (rf a T ws) n ord) (hT : nsum ws n = T) (h0 : 0 < T) {x y : Nat} (hx : x < n) (hw : ws y < ws x ∨ ws y = ws x ∧ x ≤ y) : shareN a T n ws ord y ≤ shareN a T n ws ord x := by
  have hw' : ws y ≤ ws x := by omega
  have hm : a * ws y ≤ a * ws x := Nat.mul_le_mul_left a hw'
  have hq : qf a T ws y ≤ qf a T ws x := Nat.div_le_div_right hm
  have h1 := among_le ord (a - nsum (qf a T ws) n) y
  unfold shareN
  by_cases e : among ord (a - nsum (qf a T ws) n) y = 0
  · omega
  · rcases Nat.lt_or_ge (qf a T ws y) (qf a T ws x) with hlt | hge
    · omega
    · have hqe : qf a T ws y = qf a T ws x := by omega
      have d1 := Nat.div_add_mod (a * ws x) T
      have d2 := Nat.div_add_mod (a * ws y) T
      change T * qf a T ws x + rf a T ws x = a * ws x at d1
      change T * qf a T ws y + rf a T ws y = a * ws y at d2
      rw [hqe] at d2
      by_cases hxy : x ≤ y
      · have := among_up h (x := x) (left_le hT h0) hx (show rf a T ws y < rf a T ws x ∨ rf a T ws x = rf a T ws y ∧ x ≤ y by omega) e
        omega
      · have hlt : ws y < ws x := by omega
        rcases Nat.eq_zero_or_pos a with ha | ha
        · exfalso
          have hz := (left_le (a := a) hT h0)
          have : a - nsum (qf a T ws) n = 0 := by omega
          rw [this] at e
          exact e rfl
        · have : a * ws y < a * ws x := Nat.mul_lt_mul_of_pos_left hlt ha
          have := among_up h (x := x) (left_le hT h0) hx (show rf a T ws y < rf a T ws x ∨ rf a T ws x = rf a T ws y ∧ x ≤ y by omega) e
          omega
end
theorem IsOrd.same {R : Nat → Nat} {n : Nat} {o1 o2 : Nat → Nat} (h1 : IsOrd R n o1) (h2 : IsOrd R n o2) : ∀ i, i < n → o1 i = o2 i := by
  intro i
  induction i using Nat.strongRecOn with
  | ind i ih =>
    intro hi
    rcases Nat.lt_trichotomy (o1 i) (o2 i) with h | h | h
    all_goals first | exact h | skip
    all_goals
      exfalso
      obtain ⟨j, hj, ej⟩ := h1.at (h2.lt i hi)
      obtain ⟨k, hk, ek⟩ := h2.at (h1.lt i hi)
      have hij : i < j := by
        rcases Nat.lt_trichotomy i j with h' | h' | h'
        · exact h'
        · subst h'; omega
        · have := ih j h' hj
          have := h2.inj hj hi (by omega)
          omega
      have hik : i < k := by
        rcases Nat.lt_trichotomy i k with h' | h' | h'
        · exact h'
        · subst h'; omega
        · have := ih k h' hk
          have := h1.inj hk hi (by omega)
          omega
      have a := h1.ord i j hij hj
      have b := h2.ord i k hik hk
      rw [ej] at a
      rw [ek] at b
      omega
theorem among_same {o1 o2 : Nat → Nat} (x : Nat) : ∀ k, (∀ i, i < k → o1 i = o2 i) → among o1 k x = among o2 k x
  | 0, _ => rfl
  | k + 1, h => by
    unfold among
    rw [h k (by omega), among_same x k fun i hi => h i (by omega)]
theorem share_same {a T n : Nat} {ws o1 o2 : Nat → Nat} (h1 : IsOrd (rf a T ws) n o1) (h2 : IsOrd (rf a T ws) n o2) (hT : nsum ws n = T) (h0 : 0 < T) (x : Nat) : shareN a T n ws o1 x = shareN a T n ws o2 x := by
  unfold shareN
  rw [among_same x _ fun i hi => h1.same h2 i (by have := left_le (a := a) hT h0; omega)]
end Go.Proofs.YthkobjbemmllfaaGreatDoor
namespace Go.Proofs.YthkobjbemmllfaaGreatDoor
open Go.RowKit

theorem divOK_any {X d : Nat} (hX : X < 18446744073709551616 ∨ 2 ≤ d) (hd : 0 < d) (hd1 : d < 18446744073709551616) : DivOK X d := fun base xv w h hb => divW_wide base X d xv w h hX hd hd1 hb
theorem divOK_share {a T : Nat} {ws : Nat → Nat} {n i : Nat} (ha : a ≤ 9223372036854775807) (hT : nsum ws n = T) (h0 : 0 < T) (h1 : T ≤ 9223372036854775807) (hi : i < n) : DivOK (a * ws i) T := by
  refine divOK_any ?_ h0 (by omega)
  rcases Nat.lt_or_ge T 2 with h | h
  · left
    have hw : ws i ≤ 1 := by have := nsum_ge ws hi; omega
    have := Nat.mul_le_mul_left a hw
    omega
  · exact .inr h
/-- A good weight. -/
def okW (x : Int) : Prop := 0 ≤ x ∧ x ≤ 1000000
instance (x : Int) : Decidable (okW x) := by unfold okW; exact inferInstance
/-- Are the first n weights good? -/
def okTo (z : Nat → Int) : Nat → Bool
  | 0 => true
  | n + 1 => okTo z n && decide (okW (z n))
theorem okTo_at {z : Nat → Int} : ∀ {n : Nat}, okTo z n = true → ∀ i, i < n → okW (z i)
  | n + 1, h, i, hi => by
    rw [okTo, Bool.and_eq_true] at h
    rcases Nat.lt_or_ge i n with h' | h'
    · exact okTo_at h.1 i h'
    · obtain rfl : i = n := by omega
      exact of_decide_eq_true h.2
theorem okTo_mono {z : Nat → Int} {m : Nat} : ∀ {n : Nat}, okTo z n = true → m ≤ n → okTo z m = true
  | 0, h, hm => by rw [Nat.le_zero.1 hm]; exact h
  | n + 1, h, hm => by
    rcases Nat.lt_or_ge m (n + 1) with h' | h'
    · rw [okTo, Bool.and_eq_true] at h
      exact okTo_mono h.1 (by omega)
    · obtain rfl : m = n + 1 := by omega
      exact h
/-- The weights as numbers. -/
def wz (z : Nat → Int) (i : Nat) : Nat := (z i).toNat
theorem wz_at {z : Nat → Int} {n : Nat} (h : okTo z n = true) {i : Nat} (hi : i < n) : z i = ((wz z i : Nat) : Int) ∧ wz z i ≤ 1000000 := by
  have := okTo_at h i hi
  unfold okW at this
  unfold wz
  omega
/-- What is refused: the number of the error; else 0. -/
def splitErr (a : Int) (z : Nat → Int) (n : Nat) : Nat := if a < 0 then 9 else if okTo z n = true ∧ nsum (wz z) n ≠ 0 then 0 else 6
/-- A slice of numbers that came in. -/
def Ints (w : World) (A : Option Addr) (n : Nat) (f : Nat → Int) : Prop := n = 0 ∨ ∃ b o, A = some ⟨b, o, none⟩ ∧ b < w.heap.size ∧ ∀ i, i < n → w.cell? ⟨b, o + i, none⟩ = some (.int .i64 (f i))
theorem nums_of {w : World} {A : Option Addr} {n : Nat} {z : Nat → Int} (h : Ints w A n z) (hok : okTo z n = true) : Nums w A n (wz z) := by
  rcases h with h | ⟨b, o, rfl, hb, hc⟩
  · exact .inl h
  · exact .inr ⟨b, o, rfl, hb, fun i hi => by rw [hc i hi, (wz_at hok hi).1]⟩

set_option maxRecDepth 100000 in
set_option maxHeartbeats 4000000 in
theorem split_neg (B : Nat → Addr) (A : Option Addr) (n c : Nat) (a : Int) (w : World) (hE : Env w B) (ha : a < 0) :
    Calls Tryz.prog 7 #[.int .i64 a, .slice A n c] w fun e w' => e = .returned (.tuple #[.slice none 0 0, ev B 9]) ∧ Below w.heap.size w w' := by
  have c9 := hE.cell 0 (by decide)
  have d0 : decide (a < 0) = true := decide_eq_true ha
  have HV := Lib.hid (show ev B 9 = .iface 188 (.pointer (some (B 0))) from rfl)
  clear hE ha
  go_enter Tryz.func7, Tryz.ntmps7
  go_wp2
  go_quiet (fail)
  go_wp2
  go_ret2
  exact ⟨by rw [HV.out]; rfl, below_drewN (Below.refl _ _) _⟩
set_option maxRecDepth 100000 in
set_option maxHeartbeats 4000000 in
theorem split_bad (B : Nat → Addr) (A : Option Addr) (n c : Nat) (a : Int) (z : Nat → Int) (w : World) (hE : Env w B) (ha : 0 ≤ a) (hA : Ints w A n z) (hn : n ≤ 17592186044416) (hbad : ¬ (okTo z n = true ∧ nsum (wz z) n ≠ 0)) (hsum : ∀ i, i ≤ n → okTo z i = true → nsum (wz z) i ≤ 9223372036854775807) :
    Calls Tryz.prog 7 #[.int .i64 a, .slice A n c] w fun e w' => e = .returned (.tuple #[.slice none 0 0, ev B 6]) ∧ Below w.heap.size w w' := by
  have c6 := hE.cell 1 (by decide)
  have d0 : decide (a < 0) = false := decide_eq_false (by omega)
  have HV := Lib.hid (show ev B 6 = .iface 188 (.pointer (some (B 1))) from rfl)
  have HA := Lib.hid hA; have HBAD := Lib.hid hbad; have HSUM := Lib.hid hsum
  have hn2 : (n : Int) ≤ 17592186044416 := by omega
  clear hE ha hA hbad hsum
  go_enter Tryz.func7, Tryz.ntmps7
  go_wp2_with fail
  go_loop [25, 6] (fun vi vt => ∃ i : Nat, vi = .int .i64 i ∧ i ≤ n ∧ vt = .int .i64 (nsum (wz z) i) ∧ Hid (okTo z i = true)) (fun vi _ => n - (intOf vi).toNat)
  case atStart => exact ⟨0, rfl, Nat.zero_le _, rfl, Lib.hid rfl⟩
  case round =>
    obtain ⟨i, rfl, hi, rfl, hok⟩ := hrel
    rcases Nat.lt_or_ge i n with h | h
    · rcases HA.out with h0 | ⟨b, o, rfl, hb, hc⟩
      · omega
      · have hci := hc i h
        have hiI : (i : Int) < n := by omega
        clear hc hb
        by_cases hz : okW (z i)
        · have hok2 : okTo z (i + 1) = true := by rw [okTo, hok.out]; simpa using hz
          have hsu := HSUM.out (i + 1) (by omega) hok2
          have HS := Lib.hid (nsum_succ (wz z) i)
          rw [nsum_succ] at hsu
          have hw := wz_at hok2 (Nat.lt_succ_self i)
          rw [hw.1] at hci
          have hwi := hw.2
          have HOK := Lib.hid hok2
          clear hz hok2 hw
          generalize wz z i = x at *
          generalize nsum (wz z) i = s at *
          have d2 : decide ((x : Int) < 0) = false := decide_eq_false (by omega)
          have d3 : decide ((1000000 : Int) < (x : Int)) = false := decide_eq_false (by omega)
          have hxI : (x : Int) ≤ 1000000 := by omega
          have hsI : (s : Int) + (x : Int) ≤ 9223372036854775807 := by omega
          go_wp2
          go_round
          case rel => exact ⟨i + 1, by go_num, h, by rw [HS.out]; go_num, HOK⟩
          case measure => simp [intOf]; omega
        · unfold okW at hz
          generalize z i = x at *
          by_cases hx : x < 0
          · have d2 : decide (x < 0) = true := decide_eq_true hx
            clear hz hx
            go_wp2
            go_quiet (fail)
            go_wp2
            go_ret2
            exact ⟨by rw [HV.out]; rfl, below_drewN (Below.refl _ _) _⟩
          · have d2 : decide (x < 0) = false := decide_eq_false hx
            have d3 : decide ((1000000 : Int) < x) = true := decide_eq_true (by omega)
            clear hz hx
            go_wp2
            go_quiet (fail)
            go_wp2
            go_ret2
            exact ⟨by rw [HV.out]; rfl, below_drewN (Below.refl _ _) _⟩
    · obtain rfl : n = i := by omega
      have h0 : nsum (wz z) n = 0 := by
        rcases Nat.eq_zero_or_pos (nsum (wz z) n) with e | e
        · exact e
        · exact absurd ⟨hok.out, by omega⟩ HBAD.out
      rw [h0]
      clear h0 h
      go_wp2
      go_quiet (fail)
      go_wp2
      go_ret2
      exact ⟨by rw [HV.out]; rfl, below_drewN (Below.refl _ _) _⟩
end Go.Proofs.YthkobjbemmllfaaGreatDoor
