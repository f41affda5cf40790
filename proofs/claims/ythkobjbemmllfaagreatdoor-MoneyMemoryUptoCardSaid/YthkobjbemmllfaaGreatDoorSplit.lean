/- money.Split: walked. -/
import Derived.Test.YthkobjbemmllfaaGreatDoorText
import Derived.Test.YthkobjbemmllfaaGreatDoorRate
import Derived.Test.YthkobjbemmllfaaGreatDoorHeldR
import Derived.Deep.OwnRows
import Derived.Deep.DeepCutAuto
import Derived.Handy
namespace Go.Proofs.YthkobjbemmllfaaGreatDoor
open Go.RowKit

set_option maxRecDepth 100000 in
theorem code_eur (w : World) : Calls Tryz.prog 16 #[.string ⟨#[69, 85, 82]⟩] w fun e w' => e = .returned (.bool true) ∧ w = w' := by
  go_enter Tryz.func16, Tryz.ntmps16
  go_wp2
  go_loop [6] (fun v => ∃ k : Nat, v = .int .i64 k ∧ k ≤ 3) (fun v => 3 - (intOf v).toNat)
  case atStart => exact ⟨0, rfl, by omega⟩
  case round =>
    obtain ⟨k, rfl, hk⟩ := hrel
    rcases (by omega : k = 0 ∨ k = 1 ∨ k = 2 ∨ k = 3) with rfl | rfl | rfl | rfl
    · go_wp2
      all_goals first | exact ⟨⟨1, rfl, by omega⟩, by simp [intOf]⟩ | skip
    · go_wp2
      all_goals first | exact ⟨⟨2, rfl, by omega⟩, by simp [intOf]⟩ | skip
    · go_wp2
      all_goals first | exact ⟨⟨3, rfl, by omega⟩, by simp [intOf]⟩ | skip
    · go_wp2
      go_ret
      exact ⟨rfl, rfl⟩
end Go.Proofs.YthkobjbemmllfaaGreatDoor
namespace Go.Proofs.YthkobjbemmllfaaGreatDoor
open Go.RowKit

def nsum (f : Nat → Nat) : Nat → Nat
  | 0 => 0
  | n + 1 => nsum f n + f n
theorem nsum_succ (f : Nat → Nat) (n : Nat) : nsum f (n + 1) = nsum f n + f n := rfl
theorem nsum_le {f : Nat → Nat} {M N : Nat} (hf : ∀ i, i < N → f i ≤ M) : ∀ n, n ≤ N → nsum f n ≤ n * M
  | 0, _ => by simp [nsum]
  | n + 1, h => by
    have ih := nsum_le hf n (by omega)
    have := hf n (by omega)
    rw [nsum_succ, Nat.succ_mul]
    omega
theorem nsum_mono (f : Nat → Nat) {m : Nat} : ∀ n, m ≤ n → nsum f m ≤ nsum f n
  | 0, h => by rw [Nat.le_zero.1 h]; exact Nat.le_refl _
  | n + 1, h => by
    rcases Nat.lt_or_ge m (n + 1) with h' | h'
    · have := nsum_mono f (m := m) n (by omega); rw [nsum_succ]; omega
    · obtain rfl : m = n + 1 := by omega
      exact Nat.le_refl _

theorem info2 : (Tryz.prog.info? 2).map (fun i => (i.zero, i.size, i.bytes)) = some (some (.int .i64 0), 1, 8) := by kernel_rfl
theorem info3 : (Tryz.prog.info? 3).map (fun i => (i.zero, i.size, i.bytes)) = some (some (.int .i64 0), 1, 8) := by kernel_rfl
theorem make24 (n : Nat) (hn : n ≤ 17592186044416) (w : World) : (Instr.makeSlice 23 (.int .i64 n) (.int .i64 n)).run Tryz.prog w = .ok (.slice (some ⟨w.heap.size, 0, none⟩) n n) (w.alloc (.cells (madeCells #[.int .i64 0] n) 2)) :=
  run_make_row' 23 2 _ 8 Tryz.underlying23 info2 rfl .i64 .i64 n (by omega) (by omega) w
theorem make22 (n : Nat) (hn : n ≤ 17592186044416) (w : World) : (Instr.makeSlice 22 (.int .i64 n) (.int .i64 n)).run Tryz.prog w = .ok (.slice (some ⟨w.heap.size, 0, none⟩) n n) (w.alloc (.cells (madeCells #[.int .i64 0] n) 3)) :=
  run_make_row' 22 3 _ 8 Tryz.underlying22 info3 rfl .i64 .i64 n (by omega) (by omega) w

/-- A slice that came in reads as numbers. -/
def Nums (w : World) (A : Option Addr) (n : Nat) (f : Nat → Nat) : Prop := n = 0 ∨ ∃ b o, A = some ⟨b, o, none⟩ ∧ b < w.heap.size ∧ ∀ i, i < n → w.cell? ⟨b, o + i, none⟩ = some (.int .i64 (f i))

/-- The five blocks that Split makes. -/
structure Made5 (w0 w : World) (bS bR bO b1 b2 n : Nat) (S R O : Nat → Nat) : Prop where
  below : Below w0.heap.size w0 w
  s : w.rowIs bS 2 n (fun i => .int .i64 (S i))
  r : w.rowIs bR 2 n (fun i => .int .i64 (R i))
  o : w.rowIs bO 3 n (fun i => .int .i64 (O i))
  x1 : w.heap[b1]? = some (.cells #[.slice (some ⟨bR, 0, none⟩) n n] 23 (0, 0))
  x2 : w.heap[b2]? = some (.cells #[.slice (some ⟨bO, 0, none⟩) n n] 22 (0, 0))
  ge : w0.heap.size ≤ bS ∧ w0.heap.size ≤ bR ∧ w0.heap.size ≤ bO ∧ w0.heap.size ≤ b1 ∧ w0.heap.size ≤ b2
  ne : bS ≠ bR ∧ bS ≠ bO ∧ bR ≠ bO ∧ bS ≠ b1 ∧ bR ≠ b1 ∧ bO ≠ b1 ∧ bS ≠ b2 ∧ bR ≠ b2 ∧ bO ≠ b2

theorem grow_at {w : World} {os : Array Obj} {j k : Nat} {o : Obj} (hk : k = w.heap.size + j) (ho : os[j]? = some o) : (Go.Sort.grow w os).heap[k]? = some o := by
  subst hk
  show (w.heap ++ os)[w.heap.size + j]? = some o
  rw [Array.getElem?_append_right (by omega), Nat.add_sub_cancel_left]
  exact ho
theorem made_row {w : World} {g n : Nat} {t : TypeId} (h : w.heap[g]? = some (.cells (madeCells #[.int .i64 0] n) t (0, 0))) : w.rowIs g t n (fun _ => .int .i64 ((0 : Nat) : Int)) :=
  ⟨_, h, size_madeCells _ _, fun i hi => by simp [madeCells, hi, Nat.mod_one]⟩
/-- What the makes leave. -/
def Rel5 (w : World) (n : Nat) (v9 v10 v11 : Value) (wr : World) : Prop := ∃ bS bR bO b1 b2 : Nat, v9 = .slice (some ⟨bS, 0, none⟩) n n ∧ v10 = .pointer (some ⟨b1, 0, none⟩) ∧ v11 = .pointer (some ⟨b2, 0, none⟩) ∧ Made5 w wr bS bR bO b1 b2 n (fun _ => 0) (fun _ => 0) (fun _ => 0)
theorem Rel5.mk' {w w' : World} {bS bR bO b1 b2 n m : Nat} {os : Array Obj} (hw : w' = (Go.Sort.grow w os).drewN m)
    (h1 : (Go.Sort.grow w os).heap[b1]? = some (.cells #[.slice (some ⟨bR, 0, none⟩) n n] 23 (0, 0))) (h2 : (Go.Sort.grow w os).heap[b2]? = some (.cells #[.slice (some ⟨bO, 0, none⟩) n n] 22 (0, 0)))
    (hs : (Go.Sort.grow w os).heap[bS]? = some (.cells (madeCells #[.int .i64 0] n) 2 (0, 0))) (hr : (Go.Sort.grow w os).heap[bR]? = some (.cells (madeCells #[.int .i64 0] n) 2 (0, 0))) (ho : (Go.Sort.grow w os).heap[bO]? = some (.cells (madeCells #[.int .i64 0] n) 3 (0, 0)))
    (ge : w.heap.size ≤ bS ∧ w.heap.size ≤ bR ∧ w.heap.size ≤ bO ∧ w.heap.size ≤ b1 ∧ w.heap.size ≤ b2) (ne : bS ≠ bR ∧ bS ≠ bO ∧ bR ≠ bO ∧ bS ≠ b1 ∧ bR ≠ b1 ∧ bO ≠ b1 ∧ bS ≠ b2 ∧ bR ≠ b2 ∧ bO ≠ b2) :
    Rel5 w n (.slice (some ⟨bS, 0, none⟩) n n) (.pointer (some ⟨b1, 0, none⟩)) (.pointer (some ⟨b2, 0, none⟩)) w' := by
  subst hw
  exact ⟨bS, bR, bO, b1, b2, rfl, rfl, rfl, below_drewN (Grew.below (w := w) ⟨0, os, rfl⟩) _, made_row hs, made_row hr, made_row ho, h1, h2, ge, ne⟩

/-- The exact share rounded down, and what is left of it. -/
def qf (a T : Nat) (ws : Nat → Nat) (i : Nat) : Nat := a * ws i / T
def rf (a T : Nat) (ws : Nat → Nat) (i : Nat) : Nat := a * ws i % T
theorem qr_sum (a T : Nat) (ws : Nat → Nat) : ∀ n, a * nsum ws n = T * nsum (qf a T ws) n + nsum (rf a T ws) n
  | 0 => by simp [nsum]
  | n + 1 => by
    have ih := qr_sum a T ws n
    have h := Nat.div_add_mod (a * ws n) T
    rw [nsum_succ, nsum_succ, nsum_succ, Nat.mul_add, Nat.mul_add, ih]
    show _ = T * nsum (qf a T ws) n + T * (a * ws n / T) + (nsum (rf a T ws) n + a * ws n % T)
    omega
theorem q_le {a T : Nat} {ws : Nat → Nat} {n : Nat} (hT : nsum ws n = T) (h0 : 0 < T) (i : Nat) (hi : i ≤ n) : nsum (qf a T ws) i ≤ a := by
  have h := qr_sum a T ws i
  have hm : a * nsum ws i ≤ a * T := Nat.mul_le_mul_left a (by rw [← hT]; exact nsum_mono ws n hi)
  refine (Nat.mul_le_mul_left_iff h0).1 ?_
  rw [Nat.mul_comm T a]
  omega
theorem left_le {a T : Nat} {ws : Nat → Nat} {n : Nat} (hT : nsum ws n = T) (h0 : 0 < T) : a - nsum (qf a T ws) n ≤ n := by
  have h := qr_sum a T ws n
  rw [hT] at h
  have hq := q_le (a := a) hT h0 n (Nat.le_refl _)
  have hr : nsum (rf a T ws) n ≤ n * T := nsum_le (N := n) (fun i _ => Nat.le_of_lt (Nat.mod_lt _ h0)) n (Nat.le_refl _)
  have e : T * (a - nsum (qf a T ws) n) = nsum (rf a T ws) n := by
    rw [Nat.mul_sub]
    rw [Nat.mul_comm a T] at h
    omega
  refine (Nat.mul_le_mul_left_iff h0).1 ?_
  rw [e, Nat.mul_comm T n]
  exact hr
/-- ord puts 0 .. n-1 into the order of the rests, the greatest first, of equal ones the first. -/
structure IsOrd (rf : Nat → Nat) (n : Nat) (ord : Nat → Nat) : Prop where
  lt : ∀ i, i < n → ord i < n
  ord : ∀ i j, i < j → j < n → rf (ord j) < rf (ord i) ∨ rf (ord i) = rf (ord j) ∧ ord i < ord j
theorem IsOrd.inj {rf : Nat → Nat} {n : Nat} {ord : Nat → Nat} (h : IsOrd rf n ord) {i j : Nat} (hi : i < n) (hj : j < n) (e : ord i = ord j) : i = j := by
  rcases Nat.lt_trichotomy i j with h' | h' | h'
  · have := h.ord i j h' hj; rw [e] at this; omega
  · exact h'
  · have := h.ord j i h' hi; rw [e] at this; omega
/-- Is x among the first k? -/
def among (ord : Nat → Nat) : Nat → Nat → Nat
  | 0, _ => 0
  | k + 1, x => if ord k = x then 1 else among ord k x
theorem among_none {rf : Nat → Nat} {n : Nat} {ord : Nat → Nat} (h : IsOrd rf n ord) {k : Nat} (hk : k < n) : ∀ m, m ≤ k → among ord m (ord k) = 0
  | 0, _ => rfl
  | m + 1, hm => by
    unfold among
    rw [if_neg (fun e => by have := h.inj (by omega) hk e; omega)]
    exact among_none h hk m (by omega)
/-- What Split leaves. -/
def SplitPost (n : Nat) (sh : Nat → Nat) (w : World) (e : Ending) (w' : World) : Prop :=
  ∃ bS, e = .returned (.tuple #[.slice (some ⟨bS, 0, none⟩) n n, .nilIface]) ∧ w.heap.size ≤ bS ∧ w'.rowIs bS 2 n (fun i => .int .i64 (sh i)) ∧ Below w.heap.size w w'

theorem Made5.congr {w0 w : World} {bS bR bO b1 b2 n : Nat} {S R O S' R' O' : Nat → Nat} (h : Made5 w0 w bS bR bO b1 b2 n S R O) (hS : ∀ i, i < n → S i = S' i) (hR : ∀ i, i < n → R i = R' i) (hO : ∀ i, i < n → O i = O' i) : Made5 w0 w bS bR bO b1 b2 n S' R' O' :=
  ⟨h.below, h.s.congr fun i hi => by rw [hS i hi], h.r.congr fun i hi => by rw [hR i hi], h.o.congr fun i hi => by rw [hO i hi], h.x1, h.x2, h.ge, h.ne⟩
theorem Made5.step {w0 w w' : World} {bS bR bO b1 b2 n : Nat} {S R O : Nat → Nat} (h : Made5 w0 w bS bR bO b1 b2 n S R O) (hb : Below w.heap.size w w') : Made5 w0 w' bS bR bO b1 b2 n S R O :=
  ⟨h.below.trans (hb.mono h.below.size), h.s.of_block (hb.block _ h.s.lt), h.r.of_block (hb.block _ h.r.lt), h.o.of_block (hb.block _ h.o.lt), (hb.block _ (lt_of_block h.x1)).trans h.x1, (hb.block _ (lt_of_block h.x2)).trans h.x2, h.ge, h.ne⟩
theorem Made5.setS {w0 w : World} {bS bR bO b1 b2 n : Nat} {S R O : Nat → Nat} (h : Made5 w0 w bS bR bO b1 b2 n S R O) (i v : Nat) : Made5 w0 (w.setCell ⟨bS, i, none⟩ (.int .i64 v)) bS bR bO b1 b2 n (upd S i v) R O := by
  obtain ⟨n1, n2, n3, n4, n5, n6, n7, n8, n9⟩ := h.ne
  refine ⟨h.below.setCell h.ge.1 _, (h.s.set i _).congr fun j _ => ?_, h.r.setOther (Ne.symm n1) _, h.o.setOther (Ne.symm n2) _, (Below.heap_setCell _ _ _ _ (Ne.symm n4)).trans h.x1, (Below.heap_setCell _ _ _ _ (Ne.symm n7)).trans h.x2, h.ge, h.ne⟩
  unfold upd; split <;> rfl
theorem Made5.setR {w0 w : World} {bS bR bO b1 b2 n : Nat} {S R O : Nat → Nat} (h : Made5 w0 w bS bR bO b1 b2 n S R O) (i v : Nat) : Made5 w0 (w.setCell ⟨bR, i, none⟩ (.int .i64 v)) bS bR bO b1 b2 n S (upd R i v) O := by
  obtain ⟨n1, n2, n3, n4, n5, n6, n7, n8, n9⟩ := h.ne
  refine ⟨h.below.setCell h.ge.2.1 _, h.s.setOther n1 _, (h.r.set i _).congr fun j _ => ?_, h.o.setOther (Ne.symm n3) _, (Below.heap_setCell _ _ _ _ (Ne.symm n5)).trans h.x1, (Below.heap_setCell _ _ _ _ (Ne.symm n8)).trans h.x2, h.ge, h.ne⟩
  unfold upd; split <;> rfl
theorem Made5.setO {w0 w : World} {bS bR bO b1 b2 n : Nat} {S R O : Nat → Nat} (h : Made5 w0 w bS bR bO b1 b2 n S R O) (i v : Nat) : Made5 w0 (w.setCell ⟨bO, i, none⟩ (.int .i64 v)) bS bR bO b1 b2 n S R (upd O i v) := by
  obtain ⟨n1, n2, n3, n4, n5, n6, n7, n8, n9⟩ := h.ne
  refine ⟨h.below.setCell h.ge.2.2.1 _, h.s.setOther n2 _, h.r.setOther n3 _, (h.o.set i _).congr fun j _ => ?_, (Below.heap_setCell _ _ _ _ (Ne.symm n6)).trans h.x1, (Below.heap_setCell _ _ _ _ (Ne.symm n9)).trans h.x2, h.ge, h.ne⟩
  unfold upd; split <;> rfl
theorem Made5.drewN {w0 w : World} {bS bR bO b1 b2 n : Nat} {S R O : Nat → Nat} (h : Made5 w0 w bS bR bO b1 b2 n S R O) (k : Nat) : Made5 w0 (w.drewN k) bS bR bO b1 b2 n S R O :=
  h.step ⟨rfl, rfl, rfl, Nat.le_refl _, fun _ _ => rfl⟩
end Go.Proofs.YthkobjbemmllfaaGreatDoor
