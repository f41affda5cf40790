/- sort.swapRange_func, sort.rotate_func, sort.symMerge_func, sort.stable_func: walked, over any program that lays them. -/
import Derived.Shelf.GgSortMore.Stable
import Derived.Shelf.GgSortFunc.SW
import Derived.Deep.LoopGhost
import Derived.Lib.Hide
namespace Go.Proofs.YthkobjbemmllfaaGreatDoor
section
variable {α : Type}
/-- [a, m) and [m, b) change places. -/
def rotI (f : Nat → α) (a m b : Nat) : Nat → α := fun k => if a ≤ k ∧ k < b then (if k < a + (b - m) then f (k - a + m) else f (k - (b - m))) else f k
/-- n places from a on and n from b on change places. -/
def swapI (f : Nat → α) (a b n : Nat) : Nat → α := fun k => if a ≤ k ∧ k < a + n then f (k - a + b) else if b ≤ k ∧ k < b + n then f (k - b + a) else f k
def swI (f : Nat → α) (i j : Nat) : Nat → α := fun k => if k = j then f i else if k = i then f j else f k
theorem swapI_zero (f : Nat → α) (a b : Nat) : swapI f a b 0 = f := by
  funext k; simp only [swapI]; rw [if_neg (by omega), if_neg (by omega)]
theorem swapI_succ (f : Nat → α) (a b n : Nat) (h : a + n < b) : swI (swapI f a b n) (a + n) (b + n) = swapI f a b (n + 1) := by
  funext k; simp only [swI, swapI]
  repeat' split
  all_goals first | (exfalso; omega) | (congr 1; omega) | rfl
theorem rot_gt (f : Nat → α) (m i j : Nat) (hij : j < i) (him : i ≤ m) : rotI (swapI f (m - i) m j) (m - (i - j)) m (m + j) = rotI f (m - i) m (m + j) := by
  funext k; simp only [rotI, swapI]
  repeat' split
  all_goals first | (exfalso; omega) | (congr 1; omega) | rfl
theorem rot_lt (f : Nat → α) (m i j : Nat) (hij : i < j) (him : i ≤ m) : rotI (swapI f (m - i) (m + j - i) i) (m - i) m (m + (j - i)) = rotI f (m - i) m (m + j) := by
  funext k; simp only [rotI, swapI]
  repeat' split
  all_goals first | (exfalso; omega) | (congr 1; omega) | rfl
theorem rot_same (f : Nat → α) (m i : Nat) (him : i ≤ m) : swapI f (m - i) m i = rotI f (m - i) m (m + i) := by
  funext k; simp only [rotI, swapI]
  repeat' split
  all_goals first | (exfalso; omega) | (congr 1; omega) | rfl
/-- One place goes up, by swaps of neighbours. -/
theorem rot_up (f : Nat → α) (a k : Nat) (h : a ≤ k) : swI (rotI f a (a + 1) (k + 1)) k (k + 1) = rotI f a (a + 1) (k + 2) := by
  funext x; simp only [rotI, swI]
  repeat' split
  all_goals first | (exfalso; omega) | (congr 1; omega) | rfl
theorem rot_up0 (f : Nat → α) (a : Nat) : rotI f a (a + 1) (a + 1) = f := by
  funext x; simp only [rotI]
  repeat' split
  all_goals first | (exfalso; omega) | (congr 1; omega) | rfl
/-- One place goes down. -/
theorem rot_down (f : Nat → α) (m k : Nat) (h : k < m) : swI (rotI f (k + 1) m (m + 1)) (k + 1) k = rotI f k m (m + 1) := by
  funext x; simp only [rotI, swI]
  repeat' split
  all_goals first | (exfalso; omega) | (congr 1; omega) | rfl
theorem rot_down0 (f : Nat → α) (m : Nat) : rotI f m m (m + 1) = f := by
  funext x; simp only [rotI]
  repeat' split
  all_goals first | (exfalso; omega) | (congr 1; omega) | rfl

/-- The places a .. b - 1 rise. -/
def Asc (R : α → α → Prop) (f : Nat → α) (a b : Nat) : Prop := ∀ i j, a ≤ i → i < j → j < b → R (f i) (f j)
/-- Between the two runs `lt` is the order. -/
def Cross (R : α → α → Prop) (lt : α → α → Bool) (f : Nat → α) (a m b : Nat) : Prop := ∀ i j, a ≤ i → i < m → m ≤ j → j < b → (lt (f j) (f i) = true → R (f j) (f i)) ∧ (lt (f j) (f i) = false → R (f i) (f j))
structure Merge (R : α → α → Prop) (f : Nat → α) (a b : Nat) (f' : Nat → α) : Prop where
  out : ∀ i, i < a ∨ b ≤ i → f' i = f i
  src : ∀ i, a ≤ i → i < b → ∃ i', a ≤ i' ∧ i' < b ∧ f' i = f i'
  asc : Asc R f' a b
structure Order (R : α → α → Prop) : Prop where
  trans : ∀ {x y z}, R x y → R y z → R x z
  irr : ∀ x, ¬ R x x
variable {R : α → α → Prop} {lt : α → α → Bool} {f : Nat → α} {a m b : Nat}
theorem Cross.yes (h : Cross R lt f a m b) {i j : Nat} (h1 : a ≤ i) (h2 : i < m) (h3 : m ≤ j) (h4 : j < b) (hl : lt (f j) (f i) = true) : R (f j) (f i) := (h i j h1 h2 h3 h4).1 hl
theorem Cross.no (h : Cross R lt f a m b) {i j : Nat} (h1 : a ≤ i) (h2 : i < m) (h3 : m ≤ j) (h4 : j < b) (hl : lt (f j) (f i) = false) : R (f i) (f j) := (h i j h1 h2 h3 h4).2 hl
theorem Cross.of_yes (hO : Order R) (h : Cross R lt f a m b) {i j : Nat} (h1 : a ≤ i) (h2 : i < m) (h3 : m ≤ j) (h4 : j < b) (hr : R (f j) (f i)) : lt (f j) (f i) = true := by
  cases e : lt (f j) (f i) with
  | true => rfl
  | false => exact absurd (hO.trans hr (h.no h1 h2 h3 h4 e)) (hO.irr _)
theorem Cross.of_no (hO : Order R) (h : Cross R lt f a m b) {i j : Nat} (h1 : a ≤ i) (h2 : i < m) (h3 : m ≤ j) (h4 : j < b) (hr : R (f i) (f j)) : lt (f j) (f i) = false := by
  cases e : lt (f j) (f i) with
  | false => rfl
  | true => exact absurd (hO.trans hr (h.yes h1 h2 h3 h4 e)) (hO.irr _)
/-- What is asked of two runs. -/
structure Runs (R : α → α → Prop) (lt : α → α → Bool) (f : Nat → α) (a m b : Nat) : Prop where
  am : a < m
  mb : m < b
  left : Asc R f a m
  right : Asc R f m b
  cross : Cross R lt f a m b
/-- `lt` along the pairs (p - c, c): true stays true. -/
theorem Runs.pair_up (hO : Order R) (h : Runs R lt f a m b) {c c' p : Nat} (hc : a ≤ c) (hcc : c ≤ c') (hcm : c' < m) (hp : m + c' ≤ p) (hb : p < b + c) (hl : lt (f (p - c)) (f c) = true) : lt (f (p - c')) (f c') = true := by
  rcases Nat.eq_or_lt_of_le hcc with rfl | hlt
  · exact hl
  · refine h.cross.of_yes hO (by omega) hcm (by omega) (by omega) ?_
    exact hO.trans (h.right (p - c') (p - c) (by omega) (by omega) (by omega)) (hO.trans (h.cross.yes hc (by omega) (by omega) (by omega) hl) (h.left c c' hc hlt hcm))
theorem Runs.pair_down (hO : Order R) (h : Runs R lt f a m b) {c c' p : Nat} (hc : a ≤ c) (hcc : c ≤ c') (hcm : c' < m) (hp : m + c' ≤ p) (hb : p < b + c) (hl : lt (f (p - c')) (f c') = false) : lt (f (p - c)) (f c) = false := by
  cases e : lt (f (p - c)) (f c) with
  | false => rfl
  | true => rw [h.pair_up hO hc hcc hcm hp hb e] at hl; cases hl
/-- `lt` of the right run's places against a: true stays true downwards. -/
theorem Runs.first_down (hO : Order R) (h : Runs R lt f a m b) {k k' : Nat} (hk : m ≤ k) (hkk : k ≤ k') (hkb : k' < b) (hl : lt (f k') (f a) = true) : lt (f k) (f a) = true := by
  rcases Nat.eq_or_lt_of_le hkk with rfl | hlt
  · exact hl
  · exact h.cross.of_yes hO (Nat.le_refl _) h.am hk (by omega) (hO.trans (h.right k k' hk hlt hkb) (h.cross.yes (Nat.le_refl _) h.am (by omega) hkb hl))
theorem Runs.first_up (hO : Order R) (h : Runs R lt f a m b) {k k' : Nat} (hk : m ≤ k) (hkk : k ≤ k') (hkb : k' < b) (hl : lt (f k) (f a) = false) : lt (f k') (f a) = false := by
  cases e : lt (f k') (f a) with
  | false => rfl
  | true => rw [h.first_down hO hk hkk hkb e] at hl; cases hl
/-- `lt` of m against the left run's places: true stays true upwards. -/
theorem Runs.last_up (hO : Order R) (h : Runs R lt f a m b) {k k' : Nat} (hk : a ≤ k) (hkk : k ≤ k') (hkm : k' < m) (hl : lt (f m) (f k) = true) : lt (f m) (f k') = true := by
  rcases Nat.eq_or_lt_of_le hkk with rfl | hlt
  · exact hl
  · exact h.cross.of_yes hO (by omega) hkm (Nat.le_refl _) h.mb (hO.trans (h.cross.yes hk (by omega) (Nat.le_refl _) h.mb hl) (h.left k k' hk hlt hkm))
theorem Runs.last_down (hO : Order R) (h : Runs R lt f a m b) {k k' : Nat} (hk : a ≤ k) (hkk : k ≤ k') (hkm : k' < m) (hl : lt (f m) (f k') = false) : lt (f m) (f k) = false := by
  cases e : lt (f m) (f k) with
  | false => rfl
  | true => rw [h.last_up hO hk hkk hkm e] at hl; cases hl

/-- A rotation by its pieces. -/
theorem rotI_lo (f : Nat → α) {s m e k : Nat} (h1 : s ≤ k) (h2 : k < s + (e - m)) (h3 : m ≤ e) (h4 : s ≤ m) : rotI f s m e k = f (k - s + m) := by
  unfold rotI; rw [if_pos ⟨h1, by omega⟩, if_pos h2]
theorem rotI_hi (f : Nat → α) {s m e k : Nat} (h1 : s + (e - m) ≤ k) (h2 : k < e) : rotI f s m e k = f (k - (e - m)) := by
  unfold rotI; rw [if_pos ⟨by omega, h2⟩, if_neg (by omega)]
theorem rotI_out (f : Nat → α) {s m e k : Nat} (h : k < s ∨ e ≤ k) : rotI f s m e k = f k := by
  unfold rotI; rw [if_neg (by omega)]
/-- Where a place's value came from. -/
theorem rotI_src (f : Nat → α) {s m e a b k : Nat} (h1 : a ≤ s) (h2 : s ≤ m) (h3 : m ≤ e) (h4 : e ≤ b) (h5 : a ≤ k) (h6 : k < b) : ∃ k', a ≤ k' ∧ k' < b ∧ rotI f s m e k = f k' := by
  rcases Nat.lt_or_ge k s with h | h
  · exact ⟨k, h5, h6, rotI_out f (.inl h)⟩
  · rcases Nat.lt_or_ge k (s + (e - m)) with h' | h'
    · exact ⟨_, by omega, by omega, rotI_lo f h h' h3 h2⟩
    · rcases Nat.lt_or_ge k e with h'' | h''
      · exact ⟨_, by omega, by omega, rotI_hi f h' h''⟩
      · exact ⟨k, h5, h6, rotI_out f (.inr h'')⟩
/-- A left run of one place. -/
theorem merge_first (h : Runs R lt f a (a + 1) b) {s : Nat} (hs : a + 1 ≤ s) (hsb : s ≤ b) (h1 : ∀ k, a + 1 ≤ k → k < s → lt (f k) (f a) = true) (h2 : ∀ k, s ≤ k → k < b → lt (f k) (f a) = false) : Merge R f a b (rotI f a (a + 1) s) where
  out := fun i hi => rotI_out f (by omega)
  src := fun i h1 h2 => rotI_src f (Nat.le_refl _) (by omega) hs hsb h1 h2
  asc := fun i j hi hij hj => by
    have P : ∀ k, a ≤ k → k < b → (k < a + (s - (a + 1)) ∧ rotI f a (a + 1) s k = f (k + 1)) ∨ (k = s - 1 ∧ rotI f a (a + 1) s k = f a) ∨ (s ≤ k ∧ rotI f a (a + 1) s k = f k) := fun k h3 h4 => by
      rcases Nat.lt_or_ge k (a + (s - (a + 1))) with h | h
      · exact .inl ⟨h, (rotI_lo f h3 h hs (by omega)).trans (by congr 1; omega)⟩
      · rcases Nat.lt_or_ge k s with h' | h'
        · exact .inr (.inl ⟨by omega, (rotI_hi f h h').trans (by congr 1; omega)⟩)
        · exact .inr (.inr ⟨h', rotI_out f (.inr h')⟩)
    rcases P i hi (by omega) with ⟨p1, p2⟩ | ⟨p1, p2⟩ | ⟨p1, p2⟩ <;> rcases P j (by omega) hj with ⟨q1, q2⟩ | ⟨q1, q2⟩ | ⟨q1, q2⟩ <;> rw [p2, q2]
    · exact h.right _ _ (by omega) (by omega) (by omega)
    · exact h.cross.yes (Nat.le_refl _) (by omega) (by omega) (by omega) (h1 _ (by omega) (by omega))
    · exact h.right _ _ (by omega) (by omega) (by omega)
    · omega
    · omega
    · exact h.cross.no (Nat.le_refl _) (by omega) (by omega) (by omega) (h2 _ (by omega) (by omega))
    · omega
    · omega
    · exact h.right _ _ (by omega) (by omega) (by omega)
/-- A right run of one place. -/
theorem merge_last (h : Runs R lt f a m (m + 1)) {s : Nat} (hs : a ≤ s) (hsm : s ≤ m) (h1 : ∀ k, a ≤ k → k < s → lt (f m) (f k) = false) (h2 : ∀ k, s ≤ k → k < m → lt (f m) (f k) = true) : Merge R f a (m + 1) (rotI f s m (m + 1)) where
  out := fun i hi => rotI_out f (by omega)
  src := fun i h1 h2 => rotI_src f hs hsm (by omega) (by omega) h1 h2
  asc := fun i j hi hij hj => by
    have P : ∀ k, a ≤ k → k < m + 1 → (k < s ∧ rotI f s m (m + 1) k = f k) ∨ (k = s ∧ rotI f s m (m + 1) k = f m) ∨ (s < k ∧ rotI f s m (m + 1) k = f (k - 1)) := fun k h3 h4 => by
      rcases Nat.lt_or_ge k s with h | h
      · exact .inl ⟨h, rotI_out f (.inl h)⟩
      · rcases Nat.eq_or_lt_of_le h with h' | h'
        · exact .inr (.inl ⟨h'.symm, (rotI_lo f h (by omega) (by omega) hsm).trans (by congr 1; omega)⟩)
        · exact .inr (.inr ⟨h', (rotI_hi f (by omega) h4).trans (by congr 1; omega)⟩)
    rcases P i hi (by omega) with ⟨p1, p2⟩ | ⟨p1, p2⟩ | ⟨p1, p2⟩ <;> rcases P j (by omega) hj with ⟨q1, q2⟩ | ⟨q1, q2⟩ | ⟨q1, q2⟩ <;> rw [p2, q2]
    · exact h.left _ _ (by omega) (by omega) (by omega)
    · exact h.cross.no (by omega) (by omega) (by omega) (by omega) (h1 _ (by omega) (by omega))
    · exact h.left _ _ (by omega) (by omega) (by omega)
    · omega
    · omega
    · exact h.cross.yes (by omega) (by omega) (by omega) (by omega) (h2 _ (by omega) (by omega))
    · omega
    · omega
    · exact h.left _ _ (by omega) (by omega) (by omega)

/-- What the rotation in the middle leaves: s is where the pairs turn, e its fellow; mid = s + (e - m). -/
structure Mid (R : α → α → Prop) (lt : α → α → Bool) (g : Nat → α) (a s mid e b : Nat) : Prop where
  r1 : Asc R g a s
  r2 : Asc R g s mid
  r3 : Asc R g mid e
  r4 : Asc R g e b
  c1 : Cross R lt g a s mid
  c2 : Cross R lt g mid e b
  lo : ∀ i j, a ≤ i → i < mid → mid ≤ j → j < b → R (g i) (g j)
theorem mid_of (hO : Order R) (h : Runs R lt f a m b) {mid s e : Nat} (hmid : mid = (a + b) / 2) (he : e = mid + m - s) (h0 : a ≤ s) (h1 : s ≤ m) (h2 : m ≤ e) (h3 : e ≤ b)
    (hlo : a < s → e < b → lt (f e) (f (s - 1)) = false) (hhi : s < m → m < e → lt (f (e - 1)) (f s) = true) : Mid R lt (rotI f s m e) a s mid e b := by
  have hm : mid = s + (e - m) := by omega
  have g1 : ∀ k, k < s → rotI f s m e k = f k := fun k hk => rotI_out f (.inl hk)
  have g2 : ∀ k, s ≤ k → k < mid → rotI f s m e k = f (k - s + m) := fun k h5 h6 => rotI_lo f h5 (by omega) h2 h1
  have g3 : ∀ k, mid ≤ k → k < e → rotI f s m e k = f (k - (e - m)) := fun k h5 h6 => rotI_hi f (by omega) h6
  have g4 : ∀ k, e ≤ k → rotI f s m e k = f k := fun k hk => rotI_out f (.inr hk)
  -- the four sides
  have ll : ∀ i j, a ≤ i → i < s → s ≤ j → j < m → R (f i) (f j) := fun i j p q r t => h.left i j p (by omega) t
  have rr : ∀ i j, m ≤ i → i < e → e ≤ j → j < b → R (f i) (f j) := fun i j p q r t => h.right i j p (by omega) t
  have lr : ∀ i j, a ≤ i → i < s → e ≤ j → j < b → R (f i) (f j) := fun i j p q r t => by
    have x := h.cross.no (by omega) (by omega) (by omega) (by omega) (hlo (by omega) (by omega))
    have y : R (f i) (f e) := by
      rcases Nat.lt_or_ge i (s - 1) with u | u
      · exact hO.trans (h.left i (s - 1) p u (by omega)) x
      · rwa [show i = s - 1 by omega]
    rcases Nat.eq_or_lt_of_le r with rfl | u
    · exact y
    · exact hO.trans y (h.right e j (by omega) u t)
  have rl : ∀ i j, m ≤ i → i < e → s ≤ j → j < m → R (f i) (f j) := fun i j p q r t => by
    have x := h.cross.yes (by omega) (by omega) (by omega) (by omega) (hhi (by omega) (by omega))
    have y : R (f i) (f s) := by
      rcases Nat.lt_or_ge i (e - 1) with u | u
      · exact hO.trans (h.right i (e - 1) p u (by omega)) x
      · rwa [show i = e - 1 by omega]
    rcases Nat.eq_or_lt_of_le r with rfl | u
    · exact y
    · exact hO.trans y (h.left s j (by omega) u t)
  exact {
    r1 := fun i j p q r => by rw [g1 i (by omega), g1 j r]; exact h.left i j p q (by omega)
    r2 := fun i j p q r => by rw [g2 i p (by omega), g2 j (by omega) r]; exact h.right _ _ (by omega) (by omega) (by omega)
    r3 := fun i j p q r => by rw [g3 i p (by omega), g3 j (by omega) r]; exact h.left _ _ (by omega) (by omega) (by omega)
    r4 := fun i j p q r => by rw [g4 i p, g4 j (by omega)]; exact h.right i j (by omega) q r
    c1 := fun i j p q r t => by rw [g1 i q, g2 j r t]; exact h.cross i _ p (by omega) (by omega) (by omega)
    c2 := fun i j p q r t => by rw [g3 i p q, g4 j r]; exact h.cross _ j (by omega) (by omega) (by omega) t
    lo := fun i j p q r t => by
      rcases Nat.lt_or_ge i s with u | u <;> rcases Nat.lt_or_ge j e with v | v
      · rw [g1 i u, g3 j r v]; exact ll _ _ p u (by omega) (by omega)
      · rw [g1 i u, g4 j v]; exact lr _ _ p u v t
      · rw [g2 i u q, g3 j r v]; exact rl _ _ (by omega) (by omega) (by omega) (by omega)
      · rw [g2 i u q, g4 j v]; exact rr _ _ (by omega) (by omega) v t }
/-- A run that needs no merging. -/
theorem Merge.none {g : Nat → α} {a s b : Nat} (h1 : Asc R g a s) (h2 : Asc R g s b) (h : s ≤ a ∨ b ≤ s) : Merge R g a b g where
  out := fun _ _ => rfl
  src := fun i p q => ⟨i, p, q, rfl⟩
  asc := fun i j p q r => by
    rcases h with h | h
    · exact h2 i j (by omega) q r
    · exact h1 i j p q (by omega)
/-- The two halves, merged one behind the other. -/
theorem merge_join {g g1 g2 : Nat → α} {mid s e : Nat} (hM : Mid R lt g a s mid e b) (hs : ∀ i, i < a ∨ b ≤ i → g i = f i) (hf : ∀ i, a ≤ i → i < b → ∃ i', a ≤ i' ∧ i' < b ∧ g i = f i') (ha : a ≤ mid) (hb : mid ≤ b)
    (h1 : Merge R g a mid g1) (h2 : Merge R g1 mid b g2) : Merge R f a b g2 where
  out := fun i hi => by rw [h2.out i (by omega), h1.out i (by omega), hs i hi]
  src := fun i p q => by
    rcases Nat.lt_or_ge i mid with u | u
    · obtain ⟨k, k1, k2, k3⟩ := h1.src i p u
      obtain ⟨l, l1, l2, l3⟩ := hf k k1 (by omega)
      exact ⟨l, l1, l2, by rw [h2.out i (.inl u), k3, l3]⟩
    · obtain ⟨k, k1, k2, k3⟩ := h2.src i u q
      obtain ⟨l, l1, l2, l3⟩ := hf k (by omega) k2
      exact ⟨l, l1, l2, by rw [k3, h1.out k (.inr k1), l3]⟩
  asc := fun i j p q r => by
    rcases Nat.lt_or_ge j mid with u | u
    · rw [h2.out i (.inl (by omega)), h2.out j (.inl u)]; exact h1.asc i j p q u
    · rcases Nat.lt_or_ge i mid with v | v
      · obtain ⟨k, k1, k2, k3⟩ := h1.src i p v
        obtain ⟨l, l1, l2, l3⟩ := h2.src j u r
        rw [h2.out i (.inl v), k3, l3, h1.out l (.inr l1)]
        exact hM.lo k l k1 k2 l1 l2
      · exact h2.asc i j v q r
/-- The second half's runs behind the first half's merging. -/
theorem Mid.second {g g1 : Nat → α} {mid s e : Nat} (he : mid ≤ e) (hM : Mid R lt g a s mid e b) (h1 : Merge R g a mid g1) : Asc R g1 mid e ∧ Asc R g1 e b ∧ Cross R lt g1 mid e b := by
  have k : ∀ i, mid ≤ i → g1 i = g i := fun i hi => h1.out i (.inr hi)
  refine ⟨fun i j p q r => ?_, fun i j p q r => ?_, fun i j p q r t => ?_⟩
  · rw [k i p, k j (by omega)]; exact hM.r3 i j p q r
  · rw [k i (by omega), k j (by omega)]; exact hM.r4 i j p q r
  · rw [k i p, k j (by omega)]; exact hM.c2 i j p q r t
end
end Go.Proofs.YthkobjbemmllfaaGreatDoor
namespace Go.Proofs.YthkobjbemmllfaaGreatDoor
open Go Go.Proofs Go.Shelf Go.RowKit Go.Lib Go.Sort
variable {P : Program} {ρ : Ren} {α : Type} [Inhabited α]
/-- An array as a function. -/
def gt (d : Array α) : Nat → α := fun k => d[k]!
theorem gt_swp (d : Array α) (i j : Nat) (hi : i < d.size) (hj : j < d.size) : gt (swp d i j) = swI (gt d) i j := by
  funext k
  unfold gt swI
  by_cases h1 : k = j
  · subst h1; rw [if_pos rfl, swp_right d i k hj]
  · rw [if_neg h1]
    by_cases h2 : k = i
    · subst h2; rw [if_pos rfl, swp_left d k j hi h1]
    · rw [if_neg h2, swp_other d i j k h2 h1]
theorem SW.trans {enc : α → Value} {w0 w1 w2 : World} {blk off : Nat} {d1 d2 : Array α} (h : SW enc w0 blk off d1 w1) (h2 : SW enc w1 blk off d2 w2) (hblk : blk < w0.heap.size) (hs : d2.size = d1.size) : SW enc w0 blk off d2 w2 := by
  obtain ⟨n, os, rfl⟩ := h2
  exact h.on hblk n d2 os hs
/-- A function's own box of two cells. -/
def Bx (B : Nat) (x y : Value) (W : World) : Prop := W.cell? ⟨B, 0, none⟩ = some x ∧ W.cell? ⟨B, 1, none⟩ = some y ∧ B < W.heap.size
theorem Bx.on {B : Nat} {x y : Value} {W w1 : World} (h : Bx B x y W) {enc : α → Value} {blk off : Nat} {d' : Array α} (hne : B ≠ blk) (h1 : SW enc W blk off d' w1) : Bx B x y w1 := by
  obtain ⟨m, os, rfl⟩ := h1
  have hp : (putRow enc (Sort.ahead W m) blk off d').heap.size = W.heap.size := size_putRow _ _ _ _ _
  refine ⟨?_, ?_, ?_⟩
  · unfold sortWorld; rw [cell?_grow _ _ _ (by rw [hp]; exact h.2.2), cell?_putRow_other enc _ blk off _ _ (Or.inl hne)]; exact h.1
  · unfold sortWorld; rw [cell?_grow _ _ _ (by rw [hp]; exact h.2.2), cell?_putRow_other enc _ blk off _ _ (Or.inl hne)]; exact h.2.1
  · unfold sortWorld; rw [size_grow, hp]; exact Nat.lt_of_lt_of_le h.2.2 (Nat.le_add_right _ _)
/-- What a callee of the family asks, at a world of the walk. -/
structure Ctx (P : Program) (enc : α → Value) (lt : α → α → Bool) (g : Nat) (lb : Array Value) (sf : Nat) (sb : Array Value) (blk off : Nat) (d : Array α) (W : World) : Prop where
  less : LessReads P g lb enc lt blk off d.size W
  swap : SwapSwaps P sf sb enc blk off d.size
  holds : Holds enc W blk off d
  lt : blk < W.heap.size
  sz : d.size < 4611686018427387904
theorem Ctx.step {enc : α → Value} {lt : α → α → Bool} {g : Nat} {lb : Array Value} {sf : Nat} {sb : Array Value} {blk off : Nat} {d d' : Array α} {W W' : World} (h : Ctx P enc lt g lb sf sb blk off d W) (hS : SW enc W blk off d' W') (hs : d'.size = d.size) : Ctx P enc lt g lb sf sb blk off d' W' :=
  ⟨by rw [hs]; exact hS.lessReads h.less h.lt hs, by rw [hs]; exact h.swap, hS.holds h.lt h.holds hs, hS.lt h.lt, by rw [hs]; exact h.sz⟩
theorem Ctx.start {enc : α → Value} {lt : α → α → Bool} {g : Nat} {lb : Array Value} {sf : Nat} {sb : Array Value} {blk off : Nat} {d : Array α} {W : World} (h : Ctx P enc lt g lb sf sb blk off d W) : SW enc W blk off d W := SW.start h.holds

set_option maxHeartbeats 1600000 in
set_option maxRecDepth 1000000 in
theorem swapRange_any (L : LaysGt.n8 P ρ) {enc : α → Value} {lt : α → α → Bool} {g : Nat} {lb : Array Value} {sf : Nat} {sb : Array Value} {blk off : Nat} {d : Array α} {W : World} (hC : Ctx P enc lt g lb sf sb blk off d W) (a b n : Nat) (h1 : a + n ≤ b) (h2 : b + n ≤ d.size) :
    Calls P (ρ.f 49) #[.agg #[.func (.func g) #[] lb, .func (.func sf) #[] sb], .int .i64 a, .int .i64 b, .int .i64 n] W fun e w' => e = .returned (.tuple #[]) ∧ ∃ d', d'.size = d.size ∧ gt d' = swapI (gt d) a b n ∧ SW enc W blk off d' w' := by
  have mixed := L.mixed; have t0 := L.t0; have a0 := L.a0; have z0 := L.z0; have v0 := L.v0; have t3 := L.t3; have a3 := L.a3; have z3 := L.z3; have v3 := L.v3; have t4 := L.t4; have a4 := L.a4; have z4 := L.z4; have v4 := L.v4; have t26 := L.t26; have a26 := L.a26; have z26 := L.z26; have v26 := L.v26; have t38 := L.t38; have a38 := L.a38; have z38 := L.z38; have v38 := L.v38; have t42 := L.t42; have a42 := L.a42; have z42 := L.z42; have v42 := L.v42
  have u42 := run_underlying L.t42
  have hlt := hC.lt
  have hsz := hC.sz
  have hne : W.heap.size ≠ blk := by omega
  have HC := Lib.hid hC
  clear hC
  go_enter L.f49, BodyGt.n49_ntmps ρ
  go_wp2
  go_loopg [8] n (fun k s8 wr => ∃ (i : Nat) (dk : Array α), s8 = .int .i64 i ∧ i ≤ n ∧ n - i ≤ k ∧ dk.size = d.size ∧ Hid (gt dk = swapI (gt d) a b i) ∧ Hid (SW enc W blk off dk wr) ∧ Hid (Bx W.heap.size (.func (.func g) #[] lb) (.func (.func sf) #[] sb) wr))
  case atStart => exact ⟨0, d, rfl, Nat.zero_le _, Nat.le_refl _, rfl, Lib.hid (swapI_zero _ _ _).symm, Lib.hid (HC.out.start.alloc _), Lib.hid ⟨by simp, by simp, by simp⟩⟩
  case round =>
    obtain ⟨i, dk, rfl, hi, hk, hs, hg, hSW, hBx⟩ := hrel
    by_cases hlti : i < n
    · have c1 := hBx.out.2.1
      have hc2 := HC.out.step hSW.out hs
      have hs2 := hc2.swap wr dk hc2.holds rfl (a + i) (b + i) (by omega) (by omega)
      have HS := Lib.hid (hSW.out.swap hlt (a + i) (b + i) (by omega) (by omega))
      have HS1 := Lib.hid ((SW.start hc2.holds).swap hc2.lt (a + i) (b + i) (by omega) (by omega))
      rw [show (((a + i : Nat)) : Int) = (a : Int) + i by omega, show (((b + i : Nat)) : Int) = (b : Int) + i by omega] at hs2
      clear hc2
      go_wp2
      go_roundg (n - (i + 1))
      case measure => omega
      case rel => exact ⟨i + 1, swp dk (a + i) (b + i), by simp, by omega, Nat.le_refl _, by rw [size_swp]; exact hs, Lib.hid (by rw [gt_swp _ _ _ (by omega) (by omega), hg.out]; exact swapI_succ _ _ _ _ (by omega)), HS, Lib.hid (hBx.out.on hne HS1.out)⟩
    · obtain rfl : i = n := by omega
      go_wp2
      go_end0
      exact ⟨rfl, dk, hs, hg.out, hSW.out⟩

set_option maxHeartbeats 1600000 in
set_option maxRecDepth 1000000 in
theorem rotate_any (L : LaysGt.n8 P ρ) {enc : α → Value} {lt : α → α → Bool} {g : Nat} {lb : Array Value} {sf : Nat} {sb : Array Value} {blk off : Nat} {d : Array α} {W : World} (hC : Ctx P enc lt g lb sf sb blk off d W) (a m b : Nat) (h1 : a < m) (h2 : m < b) (h3 : b ≤ d.size) :
    Calls P (ρ.f 42) #[.agg #[.func (.func g) #[] lb, .func (.func sf) #[] sb], .int .i64 a, .int .i64 m, .int .i64 b] W fun e w' => e = .returned (.tuple #[]) ∧ ∃ d', d'.size = d.size ∧ gt d' = rotI (gt d) a m b ∧ SW enc W blk off d' w' := by
  have mixed := L.mixed; have t0 := L.t0; have a0 := L.a0; have z0 := L.z0; have v0 := L.v0; have t3 := L.t3; have a3 := L.a3; have z3 := L.z3; have v3 := L.v3; have t4 := L.t4; have a4 := L.a4; have z4 := L.z4; have v4 := L.v4; have t26 := L.t26; have a26 := L.a26; have z26 := L.z26; have v26 := L.v26; have t38 := L.t38; have a38 := L.a38; have z38 := L.z38; have v38 := L.v38; have t42 := L.t42; have a42 := L.a42; have z42 := L.z42; have v42 := L.v42
  have u42 := run_underlying L.t42
  have e49 : ∀ args w, (callFunc (ρ.f 49) args).run P w = .ok (.enter (ρ.f 49) args) w := enters_of L.f49 (by kernel_rfl) rfl
  have hlt := hC.lt
  have hsz := hC.sz
  have hne : W.heap.size ≠ blk := by omega
  have HC := Lib.hid hC
  clear hC
  go_enter L.f42, BodyGt.n42_ntmps ρ
  go_wp2
  go_loopg [8, 9] (b - a) (fun k s8 s9 wr => ∃ (i j : Nat) (dk : Array α), s8 = .int .i64 i ∧ s9 = .int .i64 j ∧ 0 < i ∧ 0 < j ∧ i ≤ m - a ∧ j ≤ b - m ∧ i + j ≤ k ∧ dk.size = d.size ∧ Hid (rotI (gt dk) (m - i) m (m + j) = rotI (gt d) a m b) ∧ Hid (SW enc W blk off dk wr) ∧ Hid (Bx W.heap.size (.func (.func g) #[] lb) (.func (.func sf) #[] sb) wr))
  case atStart => exact ⟨m - a, b - m, d, by congr 1; omega, by congr 1; omega, by omega, by omega, Nat.le_refl _, Nat.le_refl _, by omega, rfl, Lib.hid (by rw [show m - (m - a) = a by omega, show m + (b - m) = b by omega]), Lib.hid (HC.out.start.alloc _), Lib.hid ⟨by simp, by simp, by simp⟩⟩
  case round =>
    obtain ⟨i, j, dk, rfl, rfl, hi0, hj0, hi, hj, hk, hs, hg, hSW, hBx⟩ := hrel
    have hc2 := Lib.hid (HC.out.step hSW.out hs)
    obtain ⟨c0, c1, _⟩ := hBx.out
    rcases Nat.lt_trichotomy i j with hij | hij | hij
    · have hr := swapRange_any L hc2.out (m - i) (m + j - i) i (by omega) (by omega)
      rw [show ((m - i : Nat) : Int) = (m : Int) - i by omega, show ((m + j - i : Nat) : Int) = (m : Int) + j - i by omega] at hr
      go_wp2_with (go_at_fn (ρ.f 49); refine hr.mono ?_; rintro e w2 ⟨rfl, d2, hs2, hg2, hS2⟩)
      go_roundg (i + (j - i))
      case measure => omega
      case rel => exact ⟨i, j - i, d2, rfl, by congr 1; omega, hi0, by omega, hi, by omega, Nat.le_refl _, hs2.trans hs, Lib.hid (by rw [hg2, rot_lt _ _ _ _ hij (by omega)]; exact hg.out), Lib.hid (SW.trans hSW.out hS2 hlt hs2), Lib.hid (hBx.out.on hne hS2)⟩
    · subst hij
      have hr := swapRange_any L hc2.out (m - i) m i (by omega) (by omega)
      rw [show ((m - i : Nat) : Int) = (m : Int) - i by omega] at hr
      go_wp2_with (go_at_fn (ρ.f 49); refine hr.mono ?_; rintro e w2 ⟨rfl, d2, hs2, hg2, hS2⟩)
      go_end0
      exact ⟨rfl, d2, hs2.trans hs, by rw [hg2, rot_same _ _ _ (by omega)]; exact hg.out, SW.trans hSW.out hS2 hlt hs2⟩
    · have hr := swapRange_any L hc2.out (m - i) m j (by omega) (by omega)
      rw [show ((m - i : Nat) : Int) = (m : Int) - i by omega] at hr
      go_wp2_with (go_at_fn (ρ.f 49); refine hr.mono ?_; rintro e w2 ⟨rfl, d2, hs2, hg2, hS2⟩)
      go_roundg (i - j + j)
      case measure => omega
      case rel => exact ⟨i - j, j, d2, by congr 1; omega, rfl, by omega, hj0, by omega, hj, Nat.le_refl _, hs2.trans hs, Lib.hid (by rw [hg2, rot_gt _ _ _ _ hij (by omega)]; exact hg.out), Lib.hid (SW.trans hSW.out hS2 hlt hs2), Lib.hid (hBx.out.on hne hS2)⟩
end Go.Proofs.YthkobjbemmllfaaGreatDoor
