/- sort.stable_func, whatever the length: walked, over any program that lays it. -/
import Derived.Test.YthkobjbemmllfaaGreatDoorSymY
namespace Go.Proofs.YthkobjbemmllfaaGreatDoor
open Go Go.Proofs Go.Shelf Go.RowKit Go.Lib Go.Sort
section
variable {α : Type} {R : α → α → Prop} {lt : α → α → Bool}
/-- Of two places of the first row `lt` tells the order, the place behind handed in first. -/
def Fresh (R : α → α → Prop) (lt : α → α → Bool) (f0 : Nat → α) (n : Nat) : Prop := ∀ i j, i < j → j < n → (lt (f0 j) (f0 i) = true → R (f0 j) (f0 i)) ∧ (lt (f0 j) (f0 i) = false → R (f0 i) (f0 j))
/-- The places a .. b - 1 rise, and hold what these places held. -/
structure Good (R : α → α → Prop) (f0 f : Nat → α) (a b : Nat) : Prop where
  asc : Asc R f a b
  src : ∀ i, a ≤ i → i < b → ∃ i', a ≤ i' ∧ i' < b ∧ f i = f0 i'
theorem Good.same {f0 f f' : Nat → α} {a b : Nat} (h : Good R f0 f a b) (he : ∀ i, a ≤ i → i < b → f' i = f i) : Good R f0 f' a b :=
  ⟨fun i j p q r => by rw [he i p (by omega), he j (by omega) r]; exact h.asc i j p q r, fun i p q => by rw [he i p q]; exact h.src i p q⟩
theorem Good.runs {f0 f : Nat → α} {a m b n : Nat} (hF : Fresh R lt f0 n) (h1 : Good R f0 f a m) (h2 : Good R f0 f m b) (ham : a < m) (hmb : m < b) (hb : b ≤ n) : Runs R lt f a m b where
  am := ham
  mb := hmb
  left := h1.asc
  right := h2.asc
  cross := fun i j p q r t => by
    obtain ⟨i', i1, i2, i3⟩ := h1.src i p q
    obtain ⟨j', j1, j2, j3⟩ := h2.src j r t
    rw [i3, j3]
    exact hF i' j' (by omega) (by omega)
theorem Good.merge {f0 f f' : Nat → α} {a m b : Nat} (h1 : Good R f0 f a m) (h2 : Good R f0 f m b) (ham : a ≤ m) (hmb : m ≤ b) (hM : Merge R f a b f') : Good R f0 f' a b where
  asc := hM.asc
  src := fun i p q => by
    obtain ⟨k, k1, k2, k3⟩ := hM.src i p q
    rcases Nat.lt_or_ge k m with h | h
    · obtain ⟨l, l1, l2, l3⟩ := h1.src k k1 h
      exact ⟨l, l1, by omega, by rw [k3, l3]⟩
    · obtain ⟨l, l1, l2, l3⟩ := h2.src k h k2
      exact ⟨l, by omega, l2, by rw [k3, l3]⟩
theorem Good.one {f0 f : Nat → α} {a b : Nat} (h : b ≤ a + 1) (he : ∀ i, a ≤ i → i < b → f i = f0 i) : Good R f0 f a b :=
  ⟨fun i j p q r => by omega, fun i p q => ⟨i, p, q, he i p q⟩⟩

/-- Every block of bs places is good. -/
def Blocks (R : α → α → Prop) (f0 f : Nat → α) (n bs : Nat) : Prop := ∀ t, Good R f0 f (t * bs) (min ((t + 1) * bs) n)
/-- The blocks of bs places up to a, those of c places from a on: a is a multiple of both. -/
structure Halfway (R : α → α → Prop) (f0 f : Nat → α) (n bs s : Nat) : Prop where
  done : ∀ t, t < s → Good R f0 f (t * (2 * bs)) (min ((t + 1) * (2 * bs)) n)
  todo : ∀ t, 2 * s ≤ t → Good R f0 f (t * bs) (min ((t + 1) * bs) n)
theorem Halfway.start {f0 f : Nat → α} {n bs : Nat} (h : Blocks R f0 f n bs) : Halfway R f0 f n bs 0 := ⟨fun t ht => by omega, fun t _ => h t⟩
theorem two_mul_at (s bs : Nat) : 2 * s * bs = s * (2 * bs) ∧ (2 * s + 1) * bs = s * (2 * bs) + bs ∧ (2 * s + 2) * bs = s * (2 * bs) + 2 * bs ∧ (s + 1) * (2 * bs) = s * (2 * bs) + 2 * bs := by
  have e : 2 * s * bs = s * (2 * bs) := by rw [Nat.mul_comm 2 s, Nat.mul_assoc]
  refine ⟨e, ?_, ?_, ?_⟩
  · rw [Nat.add_mul, e, Nat.one_mul]
  · rw [Nat.add_mul, e]
  · rw [Nat.add_mul, Nat.one_mul]
/-- The two blocks at hand. -/
theorem Halfway.pair {f0 f : Nat → α} {n bs s : Nat} (h : Halfway R f0 f n bs s) : Good R f0 f (s * (2 * bs)) (min (s * (2 * bs) + bs) n) ∧ Good R f0 f (s * (2 * bs) + bs) (min (s * (2 * bs) + 2 * bs) n) := by
  obtain ⟨e1, e2, e3, e4⟩ := two_mul_at s bs
  have h1 := h.todo (2 * s) (Nat.le_refl _)
  have h2 := h.todo (2 * s + 1) (Nat.le_succ _)
  rw [e1, e2] at h1
  rw [e2, e3] at h2
  exact ⟨h1, h2⟩
theorem Halfway.next {f0 f f' : Nat → α} {n bs s : Nat} (h : Halfway R f0 f n bs s) (hb : s * (2 * bs) + 2 * bs ≤ n) (hG : Good R f0 f' (s * (2 * bs)) (s * (2 * bs) + 2 * bs)) (ho : ∀ k, k < s * (2 * bs) ∨ s * (2 * bs) + 2 * bs ≤ k → f' k = f k) : Halfway R f0 f' n bs (s + 1) := by
  obtain ⟨e1, e2, e3, e4⟩ := two_mul_at s bs
  refine ⟨fun t ht => ?_, fun t ht => ?_⟩
  · rcases Nat.lt_or_ge t s with h' | h'
    · refine (h.done t h').same fun i p q => ho i (.inl ?_)
      have : (t + 1) * (2 * bs) ≤ s * (2 * bs) := Nat.mul_le_mul_right _ h'
      omega
    · obtain rfl : t = s := by omega
      rw [e4, show min (t * (2 * bs) + 2 * bs) n = t * (2 * bs) + 2 * bs by omega]
      exact hG
  · refine (h.todo t (by omega)).same fun i p q => ho i (.inr ?_)
    have : (2 * s + 2) * bs ≤ t * bs := Nat.mul_le_mul_right _ (by omega)
    omega
/-- The last, shorter pair. -/
theorem Halfway.last {f0 f f' : Nat → α} {n bs s : Nat} (h : Halfway R f0 f n bs s) (hn : s * (2 * bs) ≤ n) (hb : n < s * (2 * bs) + 2 * bs) (hG : Good R f0 f' (s * (2 * bs)) n) (ho : ∀ k, k < s * (2 * bs) ∨ n ≤ k → f' k = f k) : Blocks R f0 f' n (2 * bs) := by
  obtain ⟨e1, e2, e3, e4⟩ := two_mul_at s bs
  intro t
  rcases Nat.lt_trichotomy t s with h' | h' | h'
  · refine (h.done t h').same fun i p q => ho i (.inl ?_)
    have : (t + 1) * (2 * bs) ≤ s * (2 * bs) := Nat.mul_le_mul_right _ h'
    omega
  · subst h'
    rw [e4, show min (t * (2 * bs) + 2 * bs) n = n by omega]
    exact hG
  · have : (s + 1) * (2 * bs) ≤ t * (2 * bs) := Nat.mul_le_mul_right _ h'
    refine ⟨fun i j p q r => ?_, fun i p q => ?_⟩ <;> (exfalso; omega)
/-- The first loop: t blocks of bs are sorted, the rest is as it came in. -/
structure First (R : α → α → Prop) (f0 f : Nat → α) (n bs s : Nat) : Prop where
  done : ∀ t, t < s → Good R f0 f (t * bs) (min ((t + 1) * bs) n)
  rest : ∀ k, s * bs ≤ k → k < n → f k = f0 k
theorem First.next {f0 f f' : Nat → α} {n bs s : Nat} (h : First R f0 f n bs s) (hb : s * bs + bs ≤ n) (hG : Good R f0 f' (s * bs) (s * bs + bs)) (ho : ∀ k, k < s * bs ∨ s * bs + bs ≤ k → f' k = f k) : First R f0 f' n bs (s + 1) := by
  have e : (s + 1) * bs = s * bs + bs := by rw [Nat.add_mul, Nat.one_mul]
  refine ⟨fun t ht => ?_, fun k p q => ?_⟩
  · rcases Nat.lt_or_ge t s with h' | h'
    · refine (h.done t h').same fun i p q => ho i (.inl ?_)
      have : (t + 1) * bs ≤ s * bs := Nat.mul_le_mul_right _ h'
      omega
    · obtain rfl : t = s := by omega
      rw [e, show min (t * bs + bs) n = t * bs + bs by omega]
      exact hG
  · rw [ho k (.inr (by omega))]
    exact h.rest k (by omega) q
theorem First.last {f0 f f' : Nat → α} {n bs s : Nat} (h : First R f0 f n bs s) (hn : s * bs ≤ n) (hb : n < s * bs + bs) (hG : Good R f0 f' (s * bs) n) (ho : ∀ k, k < s * bs ∨ n ≤ k → f' k = f k) : Blocks R f0 f' n bs := by
  have e : (s + 1) * bs = s * bs + bs := by rw [Nat.add_mul, Nat.one_mul]
  intro t
  rcases Nat.lt_trichotomy t s with h' | h' | h'
  · refine (h.done t h').same fun i p q => ho i (.inl ?_)
    have : (t + 1) * bs ≤ s * bs := Nat.mul_le_mul_right _ h'
    omega
  · subst h'
    rw [e, show min (t * bs + bs) n = n by omega]
    exact hG
  · have : (s + 1) * bs ≤ t * bs := Nat.mul_le_mul_right _ h'
    refine ⟨fun i j p q r => ?_, fun i p q => ?_⟩ <;> (exfalso; omega)
theorem Blocks.whole {f0 f : Nat → α} {n bs : Nat} (h : Blocks R f0 f n bs) (hn : n ≤ bs) : Good R f0 f 0 n := by
  have := h 0
  rwa [Nat.zero_mul, Nat.zero_add, Nat.one_mul, show min bs n = n by omega] at this
variable [Inhabited α]
/-- The insertion of place i into those ahead of it. -/
theorem insInner_rot (f : Nat → α) (i : Nat) (a : Nat) : ∀ (j : Nat) (dj : Array α), a ≤ j → j ≤ i → i < dj.size → gt dj = rotI f j i (i + 1) →
    ∃ s, a ≤ s ∧ s ≤ j ∧ (∀ k, s ≤ k → k < j → lt (f i) (f k) = true) ∧ (a < s → lt (f i) (f (s - 1)) = false) ∧ gt (insInner lt a j dj) = rotI f s i (i + 1) ∧ (insInner lt a j dj).size = dj.size
  | 0, dj, ha, _, _, hg => ⟨0, ha, Nat.le_refl _, fun k p q => by omega, fun h => by omega, hg, rfl⟩
  | j + 1, dj, ha, hj, hi, hg => by
    have e1 : dj[j + 1]! = f i := (congrFun hg (j + 1)).trans ((rotI_lo f (Nat.le_refl _) (by omega) (by omega) hj).trans (by congr 1; omega))
    have e2 : dj[j]! = f j := (congrFun hg j).trans (rotI_out f (.inl (by omega)))
    unfold insInner
    rw [e1, e2]
    by_cases hja : j + 1 > a
    · cases hl : lt (f i) (f j) with
      | true =>
        rw [if_pos (by simp [hja])]
        have hg2 : gt (swp dj (j + 1) j) = rotI f j i (i + 1) := by
          rw [gt_swp _ _ _ (by omega) (by omega), hg]
          exact rot_down f i j (by omega)
        obtain ⟨s, s1, s2, s3, s4, s5, s6⟩ := insInner_rot f i a j (swp dj (j + 1) j) (by omega) (by omega) (by rw [size_swp]; exact hi) hg2
        refine ⟨s, s1, by omega, fun k p q => ?_, s4, s5, s6.trans (size_swp _ _ _)⟩
        rcases Nat.lt_or_ge k j with h | h
        · exact s3 k p h
        · rw [show k = j by omega]; exact hl
      | false =>
        rw [if_neg (by simp)]
        exact ⟨j + 1, ha, Nat.le_refl _, fun k p q => by omega, fun _ => hl, hg, rfl⟩
    · rw [if_neg (by simp [hja])]
      exact ⟨j + 1, ha, Nat.le_refl _, fun k p q => by omega, fun h => by omega, hg, rfl⟩
theorem insOuter_good (hO : Order R) {f0 : Nat → α} {n : Nat} (hF : Fresh R lt f0 n) (a b : Nat) (hb : b ≤ n) : ∀ (N i : Nat) (d : Array α), b - i ≤ N → a < i → b ≤ d.size → Good R f0 (gt d) a i → (∀ k, i ≤ k → k < b → gt d k = f0 k) →
    Good R f0 (gt (insOuter lt a b i d)) a (max i b) ∧ (∀ k, k < a ∨ max i b ≤ k → gt (insOuter lt a b i d) k = gt d k) ∧ (insOuter lt a b i d).size = d.size
  | N, i, d, hN, hai, hbd, hG, hk => by
    rw [insOuter]
    by_cases hib : i < b
    · rw [if_pos hib]
      obtain ⟨N, rfl⟩ : ∃ M, N = M + 1 := ⟨N - 1, by omega⟩
      obtain ⟨s, s1, s2, s3, s4, s5, s6⟩ := insInner_rot (lt := lt) (gt d) i a i d (by omega) (Nat.le_refl _) (by omega) (rot_down0 _ _).symm
      have hG1 : Good R f0 (gt d) i (i + 1) := Good.one (Nat.le_refl _) fun k p q => hk k p (by omega)
      have hR := hG.runs hF hG1 hai (Nat.lt_succ_self i) (by omega)
      have hM := merge_last hR s1 s2 (fun k p q => hR.last_down hO p (show k ≤ s - 1 by omega) (by omega) (s4 (by omega))) s3
      rw [← s5] at hM
      have hG2 := hG.merge hG1 (by omega) (by omega) hM
      obtain ⟨r1, r2, r3⟩ := insOuter_good hO hF a b hb N (i + 1) (insInner lt a i d) (by omega) (by omega) (by rw [s6]; exact hbd) hG2 (fun k p q => by rw [hM.out k (.inr p)]; exact hk k (by omega) q)
      have e : max (i + 1) b = max i b := by omega
      rw [e] at r1 r2
      exact ⟨r1, fun k p => by rw [r2 k p, hM.out k (by omega)], r3.trans s6⟩
    · rw [if_neg hib]
      rw [show max i b = i by omega]
      exact ⟨hG, fun _ _ => rfl, rfl⟩
/-- The insertion sort of one block. -/
theorem insertion_good (hO : Order R) {f0 : Nat → α} {n : Nat} (hF : Fresh R lt f0 n) (d : Array α) (a b : Nat) (hab : a ≤ b) (hb : b ≤ n) (hbd : b ≤ d.size) (hk : ∀ k, a ≤ k → k < b → gt d k = f0 k) :
    Good R f0 (gt (Sort.insertionSort lt d a b)) a b ∧ (∀ k, k < a ∨ b ≤ k → gt (Sort.insertionSort lt d a b) k = gt d k) ∧ (Sort.insertionSort lt d a b).size = d.size := by
  rcases Nat.lt_or_ge a b with h | h
  · have := insOuter_good hO hF a b hb b (a + 1) d (by omega) (by omega) hbd (Good.one (Nat.le_refl _) fun k p q => hk k p (by omega)) (fun k p q => hk k (by omega) q)
    rw [show max (a + 1) b = b by omega] at this
    exact this
  · have e : Sort.insertionSort lt d a b = d := by
      unfold Sort.insertionSort
      rw [insOuter, if_neg (by omega)]
    rw [e]
    exact ⟨Good.one (by omega) hk, fun _ _ => rfl, rfl⟩

end

section
variable {P : Program} {ρ : Ren} {α : Type} [Inhabited α]
set_option maxHeartbeats 3200000 in
set_option maxRecDepth 1000000 in
theorem stable_any (L : LaysGt.n8 P ρ) {enc : α → Value} {lt : α → α → Bool} {g : Nat} {lb : Array Value} {sf : Nat} {sb : Array Value} (eg : ∀ args w, (callFunc g args).run P w = .ok (.enter g args) w)
    {R : α → α → Prop} (hO : Order R) {blk off : Nat} {d : Array α} {W : World} (hC : Ctx P enc lt g lb sf sb blk off d W) (hF : Fresh R lt (gt d) d.size) (hsz : d.size < 288230376151711744) :
    Calls P (ρ.f 15) #[.agg #[.func (.func g) #[] lb, .func (.func sf) #[] sb], .int .i64 d.size] W fun e w' => e = .returned (.tuple #[]) ∧ ∃ d', d'.size = d.size ∧ Good R (gt d) (gt d') 0 d.size ∧ SW enc W blk off d' w' := by
  have mixed := L.mixed; have t0 := L.t0; have a0 := L.a0; have z0 := L.z0; have v0 := L.v0; have t3 := L.t3; have a3 := L.a3; have z3 := L.z3; have v3 := L.v3; have t4 := L.t4; have a4 := L.a4; have z4 := L.z4; have v4 := L.v4; have t26 := L.t26; have a26 := L.a26; have z26 := L.z26; have v26 := L.v26; have t38 := L.t38; have a38 := L.a38; have z38 := L.z38; have v38 := L.v38; have t42 := L.t42; have a42 := L.a42; have z42 := L.z42; have v42 := L.v42; have t47 := L.t47; have a47 := L.a47; have z47 := L.z47; have v47 := L.v47
  have u42 := run_underlying L.t42
  have e29 : ∀ args w, (callFunc (ρ.f 29) args).run P w = .ok (.enter (ρ.f 29) args) w := enters_of L.f29 (by kernel_rfl) rfl
  have e30 : ∀ args w, (callFunc (ρ.f 30) args).run P w = .ok (.enter (ρ.f 30) args) w := enters_of L.f30 (by kernel_rfl) rfl
  have LI : LaysGg.n26 P ρ.viaGt := ({ L with } : LaysGt.n29 P ρ).elder
  have hlt := hC.lt
  have hne : W.heap.size ≠ blk := by omega
  have HC := Lib.hid hC
  have HO := Lib.hid hO
  have HF := Lib.hid hF
  have hins : ∀ (a b : Nat) (dk : Array α) (wr : World), Ctx P enc lt g lb sf sb blk off dk wr → a ≤ b → b ≤ dk.size → Calls P (ρ.f 29) #[.agg #[.func (.func g) #[] lb, .func (.func sf) #[] sb], .int .i64 a, .int .i64 b] wr fun e w' => e = .returned (.tuple #[]) ∧ ∃ n os, w' = sortWorld enc wr blk off n (Sort.insertionSort lt dk a b) os :=
    fun a b dk wr hc h1 h2 => Any.insertionSort_func_w LI enc lt g lb sf sb blk off a b dk wr eg hc.less hc.swap hc.holds hc.lt h1 h2 hc.sz
  have HI := Lib.hid hins
  clear hC hO hF hins
  generalize hn : d.size = n at *
  go_enter L.f15, BodyGt.n15_ntmps ρ
  go_wp2
  go_loopg [5, 6] n (fun k s5 s6 wr => ∃ (s a : Nat) (dk : Array α), s5 = .int .i64 a ∧ s6 = .int .i64 ((a : Int) + 20) ∧ Hid (a = s * 20) ∧ a ≤ n ∧ n - a ≤ k ∧ dk.size = n ∧ Hid (First R (gt d) (gt dk) n 20 s) ∧ Hid (SW enc W blk off dk wr) ∧ Hid (Bx W.heap.size (.func (.func g) #[] lb) (.func (.func sf) #[] sb) wr))
  case atStart => exact ⟨0, 0, d, rfl, rfl, Lib.hid rfl, Nat.zero_le _, Nat.le_refl _, hn, Lib.hid ⟨fun t h => by omega, fun _ _ _ => rfl⟩, Lib.hid (HC.out.start.alloc _), Lib.hid ⟨by simp, by simp, by simp⟩⟩
  case round =>
    obtain ⟨s, a, dk, rfl, rfl, hsa, han, hk, hs, hFi, hSW, hBx⟩ := hrel
    obtain ⟨c0, c1, _⟩ := hBx.out
    have hc2 := Lib.hid (HC.out.step hSW.out (hs.trans hn.symm))
    by_cases h : a + 20 ≤ n
    · have hr := HI.out a (a + 20) dk _ hc2.out (by omega) (by omega)
      rw [show ((a + 20 : Nat) : Int) = (a : Int) + 20 by omega] at hr
      go_wp2_with (go_at_fn (ρ.f 29); refine hr.mono ?_; rintro e w2 ⟨rfl, nq, os, rfl⟩)
      obtain ⟨r1, r2, r3⟩ := insertion_good HO.out HF.out dk a (a + 20) (by omega) h (by omega) (fun k p q => hFi.out.rest k (by have := hsa.out; omega) (by omega))
      have hS2 : SW enc wr blk off (Sort.insertionSort lt dk a (a + 20)) (sortWorld enc wr blk off nq (Sort.insertionSort lt dk a (a + 20)) os) := ⟨nq, os, rfl⟩
      go_roundg (n - (a + 20))
      case measure => omega
      case rel => exact ⟨s + 1, a + 20, _, by simp, by simp, by have := hsa.out; exact Lib.hid (by omega), h, Nat.le_refl _, r3.trans hs, Lib.hid (hFi.out.next (by have := hsa.out; omega) (by rw [← hsa.out]; exact r1) (by rw [← hsa.out]; exact r2)), Lib.hid (SW.trans hSW.out hS2 hlt (r3.trans rfl)), Lib.hid (hBx.out.on hne hS2)⟩
    · have hr := HI.out a n dk _ hc2.out (by omega) (by omega)
      go_wp2_with (go_at_fn (ρ.f 29); refine hr.mono ?_; rintro e w2 ⟨rfl, nq, os, rfl⟩)
      obtain ⟨r1, r2, r3⟩ := insertion_good HO.out HF.out dk a n (by omega) (Nat.le_refl _) (by omega) (fun k p q => hFi.out.rest k (by have := hsa.out; omega) (by omega))
      have hS2 : SW enc wr blk off (Sort.insertionSort lt dk a n) (sortWorld enc wr blk off nq (Sort.insertionSort lt dk a n) os) := ⟨nq, os, rfl⟩
      have HB := Lib.hid (hFi.out.last (by have := hsa.out; omega) (by have := hsa.out; omega) (by rw [← hsa.out]; exact r1) (by rw [← hsa.out]; exact r2))
      have HS := Lib.hid (SW.trans hSW.out hS2 hlt r3)
      have HX := Lib.hid (hBx.out.on hne hS2)
      have hs1 := r3.trans hs
      generalize Sort.insertionSort lt dk a n = di at *
      clear hr hFi hSW hBx hc2 c0 c1 hs hk r1 r2 r3 hsa h
      go_loopg [4, 5, 6, 7] (2 * n) (fun k s4 s5 s6 s7 wx => ∃ (bs : Nat) (dj : Array α), s4 = .int .i64 bs ∧ 20 ≤ bs ∧ (bs ≤ 20 ∨ bs < 2 * n) ∧ 2 * n - bs ≤ k ∧ dj.size = n ∧ Hid (Blocks R (gt d) (gt dj) n bs) ∧ Hid (SW enc W blk off dj wx) ∧ Hid (Bx W.heap.size (.func (.func g) #[] lb) (.func (.func sf) #[] sb) wx))
      case atStart => exact ⟨20, di, rfl, Nat.le_refl _, .inl (Nat.le_refl _), by omega, hs1, HB, HS, HX⟩
      case round =>
        obtain ⟨bs, dj, rfl, hb20, hbn, hk, hsj, hBl, hSWj, hBxj⟩ := hrel
        by_cases hlt2 : bs < n
        · have hHw := Lib.hid (Halfway.start hBl.out)
          clear hBl hbn
          go_wp2_with fail
          go_loopg [5, 6] n (fun kk s5 s6 wy => ∃ (s a : Nat) (dk : Array α), s5 = .int .i64 a ∧ s6 = .int .i64 ((a : Int) + 2 * bs) ∧ Hid (a = s * (2 * bs)) ∧ a ≤ n ∧ n - a ≤ kk ∧ dk.size = n ∧ Hid (Halfway R (gt d) (gt dk) n bs s) ∧ Hid (SW enc W blk off dk wy) ∧ Hid (Bx W.heap.size (.func (.func g) #[] lb) (.func (.func sf) #[] sb) wy))
          case atStart => exact ⟨0, 0, dj, rfl, by simp, Lib.hid (Nat.zero_mul _).symm, Nat.zero_le _, Nat.le_refl _, hsj, hHw, hSWj, hBxj⟩
          case round =>
            obtain ⟨s, a, dk, rfl, rfl, hsa, han, hkk, hs, hH, hSW, hBx⟩ := hrel
            obtain ⟨c0, c1, _⟩ := hBx.out
            have hc2 := Lib.hid (HC.out.step hSW.out (hs.trans hn.symm))
            obtain ⟨p1, p2⟩ := hH.out.pair
            rw [← hsa.out] at p1 p2
            by_cases h : a + 2 * bs ≤ n
            · rw [show min (a + bs) n = a + bs by omega] at p1
              rw [show min (a + 2 * bs) n = a + 2 * bs by omega] at p2
              have hr := symMerge_any L eg HO.out (n + 1) blk off dk _ a (a + bs) (a + 2 * bs) (by omega) hc2.out (p1.runs HF.out p2 (by omega) (by omega) h) (by omega)
              have HP := Lib.hid (And.intro p1 p2)
              clear p1 p2
              rw [show ((a + 2 * bs : Nat) : Int) = (a : Int) + 2 * bs by omega, show ((a + bs : Nat) : Int) = (a : Int) + bs by omega] at hr
              go_wp2_with (go_at_fn (ρ.f 30); refine hr.mono ?_; rintro e w2 ⟨rfl, d2, hs2, hg2, hS2⟩)
              go_roundg (n - (a + 2 * bs))
              case measure => omega
              case rel =>
                have hG := HP.out.1.merge HP.out.2 (by omega) (by omega) hg2
                exact ⟨s + 1, a + 2 * bs, d2, by simp, by simp, by have := hsa.out; have := (two_mul_at s bs).2.2.2; exact Lib.hid (by omega), h, Nat.le_refl _, hs2.trans hs, Lib.hid (hH.out.next (by have := hsa.out; omega) (by rw [← hsa.out]; exact hG) (by rw [← hsa.out]; exact hg2.out)), Lib.hid (SW.trans hSW.out hS2 hlt hs2), Lib.hid (hBx.out.on hne hS2)⟩
            · by_cases h2 : a + bs < n
              · rw [show min (a + bs) n = a + bs by omega] at p1
                rw [show min (a + 2 * bs) n = n by omega] at p2
                have hr := symMerge_any L eg HO.out (n + 1) blk off dk _ a (a + bs) n (by omega) hc2.out (p1.runs HF.out p2 (by omega) h2 (Nat.le_refl _)) (by omega)
                have HP := Lib.hid (And.intro p1 p2)
                clear p1 p2
                rw [show ((a + bs : Nat) : Int) = (a : Int) + bs by omega] at hr
                go_wp2_with (go_at_fn (ρ.f 30); refine hr.mono ?_; rintro e w2 ⟨rfl, d2, hs2, hg2, hS2⟩)
                go_roundg (2 * n - bs * 2)
                case measure => omega
                case rel =>
                  have hG := HP.out.1.merge HP.out.2 (by omega) (by omega) hg2
                  exact ⟨bs * 2, d2, by simp, by omega, .inr (by omega), Nat.le_refl _, hs2.trans hs, Lib.hid (by rw [Nat.mul_comm]; exact hH.out.last (by have := hsa.out; omega) (by have := hsa.out; omega) (by rw [← hsa.out]; exact hG) (by rw [← hsa.out]; exact hg2.out)), Lib.hid (SW.trans hSW.out hS2 hlt hs2), Lib.hid (hBx.out.on hne hS2)⟩
              · rw [show min (a + bs) n = n by omega] at p1
                have HP := Lib.hid p1
                clear p1 p2
                go_wp2
                go_roundg (2 * n - bs * 2)
                case measure => omega
                case rel => exact ⟨bs * 2, dk, by simp, by omega, .inr (by omega), Nat.le_refl _, hs, Lib.hid (by rw [Nat.mul_comm]; exact hH.out.last (by have := hsa.out; omega) (by have := hsa.out; omega) (by rw [← hsa.out]; exact HP.out) (fun _ _ => rfl)), hSW, hBx⟩
        · go_wp2
          go_end0
          exact ⟨rfl, dj, hsj, hBl.out.whole (by omega), hSWj.out⟩
end
end Go.Proofs.YthkobjbemmllfaaGreatDoor
