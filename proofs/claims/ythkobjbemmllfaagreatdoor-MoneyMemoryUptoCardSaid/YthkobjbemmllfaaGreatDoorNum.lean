/- The errors' numbers: list and Num, walked. -/
import Derived.Test.YthkobjbemmllfaaGreatDoorRows
import Derived.Test.YthkobjbemmllfaaGreatDoorErrs
import Derived.WalkKit
import Derived.WalkLawsBesides
import Derived.WalkSpells
import Derived.Lib.Hide
import Derived.Outline
import Derived.Great.BuildSlice
namespace Go.Proofs.YthkobjbemmllfaaGreatDoor
open Go.RowKit

/-- The variables of the errors, by their numbers (1 first). -/
def Gs : List Nat := [5, 6, 7, 8, 9, 1, 2, 10, 0, 3, 11, 12, 13, 14, 15, 16, 17, 18, 19, 20, 21, 22, 23, 24, 25, 26, 27, 28, 29, 30, 31, 32, 33, 34, 35, 36, 37]
/-- The variable of the error of number i + 1. -/
def G (i : Nat) : Nat := Gs.getD i 0
theorem G_mem {i : Nat} (h : i < 37) : G i ∈ Gs := by
  have : ∀ i : Fin 37, G i.1 ∈ Gs := by decide
  exact this ⟨i, h⟩
theorem G_inj {i j : Nat} (hi : i < 37) (hj : j < 37) (h : G i = G j) : i = j := by
  have : ∀ i j : Fin 37, G i.1 = G j.1 → i.1 = j.1 := by decide
  exact this ⟨i, hi⟩ ⟨j, hj⟩ h

/-- All 37 errors lie in their variables. -/
abbrev Env (W : World) (B : Nat → Addr) : Prop := EnvN 188 Gs W B

/-- All errors, in order. -/
def arr (B : Nat → Addr) : Array Value := #[.iface 188 (.pointer (some (B 5))), .iface 188 (.pointer (some (B 6))), .iface 188 (.pointer (some (B 7))), .iface 188 (.pointer (some (B 8))), .iface 188 (.pointer (some (B 9))), .iface 188 (.pointer (some (B 1))), .iface 188 (.pointer (some (B 2))), .iface 188 (.pointer (some (B 10))), .iface 188 (.pointer (some (B 0))), .iface 188 (.pointer (some (B 3))), .iface 188 (.pointer (some (B 11))), .iface 188 (.pointer (some (B 12))), .iface 188 (.pointer (some (B 13))), .iface 188 (.pointer (some (B 14))), .iface 188 (.pointer (some (B 15))), .iface 188 (.pointer (some (B 16))), .iface 188 (.pointer (some (B 17))), .iface 188 (.pointer (some (B 18))), .iface 188 (.pointer (some (B 19))), .iface 188 (.pointer (some (B 20))), .iface 188 (.pointer (some (B 21))), .iface 188 (.pointer (some (B 22))), .iface 188 (.pointer (some (B 23))), .iface 188 (.pointer (some (B 24))), .iface 188 (.pointer (some (B 25))), .iface 188 (.pointer (some (B 26))), .iface 188 (.pointer (some (B 27))), .iface 188 (.pointer (some (B 28))), .iface 188 (.pointer (some (B 29))), .iface 188 (.pointer (some (B 30))), .iface 188 (.pointer (some (B 31))), .iface 188 (.pointer (some (B 32))), .iface 188 (.pointer (some (B 33))), .iface 188 (.pointer (some (B 34))), .iface 188 (.pointer (some (B 35))), .iface 188 (.pointer (some (B 36))), .iface 188 (.pointer (some (B 37)))]

theorem arr_at (B : Nat → Addr) (i : Nat) (h : i < 37) : (arr B)[i]? = some (.iface 188 (.pointer (some (B (G i))))) :=
  match i, h with
  | 0, _ => rfl
  | 1, _ => rfl
  | 2, _ => rfl
  | 3, _ => rfl
  | 4, _ => rfl
  | 5, _ => rfl
  | 6, _ => rfl
  | 7, _ => rfl
  | 8, _ => rfl
  | 9, _ => rfl
  | 10, _ => rfl
  | 11, _ => rfl
  | 12, _ => rfl
  | 13, _ => rfl
  | 14, _ => rfl
  | 15, _ => rfl
  | 16, _ => rfl
  | 17, _ => rfl
  | 18, _ => rfl
  | 19, _ => rfl
  | 20, _ => rfl
  | 21, _ => rfl
  | 22, _ => rfl
  | 23, _ => rfl
  | 24, _ => rfl
  | 25, _ => rfl
  | 26, _ => rfl
  | 27, _ => rfl
  | 28, _ => rfl
  | 29, _ => rfl
  | 30, _ => rfl
  | 31, _ => rfl
  | 32, _ => rfl
  | 33, _ => rfl
  | 34, _ => rfl
  | 35, _ => rfl
  | 36, _ => rfl
  | n + 37, h => absurd h (by omega)

theorem wpList_load_err {B : Nat → Addr} {w : World} (hE : Env w B) {ops : Array Oper} {rest : List Oper} {o : Oper} {a : Act} {Q : Exit → Act → World → Prop} (hgd : o.guard = none) (g : Nat) (ho : o.op = .load 28 (.global g)) (hg : g ∈ Gs)
    (h : wpList Tryz.prog ops Q rest (a.put o.dst (.iface 188 (.pointer (some (B g))))) w) : wpList Tryz.prog ops Q (o :: rest) a w := by
  refine wpList_plain hgd fun K hK => ?_
  have hc := hE.cell g hg
  have := hK _ _ h
  unfold Oper.wp execOp
  simp only [ho]
  go_simp
  exact this

theorem put_get (a : Act) (d : Nat) (v : Value) (h : d ≠ 0) : (a.put (some d) v).tmps.getD 0 undef = a.tmps.getD 0 undef := by
  simp [Act.put, h]
theorem put_defers (a : Act) (d : Option Nat) (v : Value) : (a.put d v).defers = a.defers := by
  cases d <;> rfl

set_option maxRecDepth 100000 in
set_option maxHeartbeats 2000000 in
theorem list_any (B : Nat → Addr) (w : World) (hE : Env w B) : Calls Tryz.prog 24 #[] w fun e w' => e = .returned (.agg (arr B)) ∧ Below w.heap.size w w' := by
  have HE2 := Lib.hid (fun o => hE.below ((Below.refl w.heap.size w).alloc (Nat.le_refl _) o))
  have HE := Lib.hid hE; clear hE
  go_enter Tryz.func24, Tryz.ntmps24
  go_wp2_with (((iterate 37 (refine wpList_load_err (HE2.out _) rfl _ rfl (by decide) ?_)); refine wpList_buildTo rfl 56 _ rfl _ rfl (arr B) (by as_aux_lemma => kernel_rfl) ?_; refine wpList_store_rowTo rfl 56 _ _ rfl rfl w.heap.size (arr B) (by as_aux_lemma => kernel_rfl) (by as_aux_lemma => kernel_rfl) 56 _ (heap_alloc_new w _) (by as_aux_lemma => kernel_rfl) (by as_aux_lemma => kernel_rfl) (by as_aux_lemma => kernel_rfl) ?_))
  refine bodyPost_ret (v := .agg (arr B)) (results_cell_row (fn := Tryz.f24) (p := 0) (ty := 56) (by kernel_rfl) _ _ w.heap.size 56 (arr B) (0, 0) (.array 37 28) ?_ ?_ Tryz.underlying56 rfl (by as_aux_lemma => kernel_rfl)) ?_ ⟨rfl, ?_⟩
  · iterate 38 (rw [put_get _ _ _ (by decide)])
    rfl
  · exact setRow_heap _ _ _ _ _ _ (heap_alloc_new w _)
  · iterate 38 (rw [put_defers])
  · exact ⟨rfl, rfl, rfl, by simp [World.setRow], fun k hk => (setRow_other _ _ _ _ (by omega)).trans (Below.heap_alloc w _ k hk)⟩

/-- An element of an array by value. -/
theorem run_index_in {P : Program} (w : World) (t e : TypeId) (n : Nat) (cs : Array Value) (k : IntKind) (i : Nat) (v : Value) (h : P.underlying t = some (.array n e)) (hi : i < n)
    (hs : ∀ w, (sizeOf e).run P w = .ok 1 w) (ha : ∀ w, (isAgg e).run P w = .ok false w) (hv : cs[i]? = some v) :
    (Instr.index t (.agg cs) (.int k i)).run P w = .ok v w := by
  simp [Instr.index, run_underlying h, asIntOf, go_sem, hs, part, ha, hv]
  intro hc
  omega

theorem index_arr (B : Nat → Addr) (i : Nat) (h : i < 37) (w : World) : (Instr.index 56 (.agg (arr B)) (.int .i64 i)).run Tryz.prog w = .ok (.iface 188 (.pointer (some (B (G i))))) w :=
  run_index_in w 56 28 37 (arr B) .i64 i _ Tryz.underlying56 h (fun _ => by kernel_rfl) (fun _ => by kernel_rfl) (arr_at B i h)

/-- An error by its number: nil for 0. -/
def ev (B : Nat → Addr) (n : Nat) : Value := if n = 0 then .nilIface else .iface 188 (.pointer (some (B (G (n - 1)))))

theorem num_nil (w : World) : Calls Tryz.prog 9 #[.nilIface] w fun e w' => e = .returned (.int .i64 0) ∧ Below w.heap.size w w' := by
  go_enter Tryz.func9, Tryz.ntmps9
  go_wp2
  go_ret
  exact ⟨rfl, Below.refl _ _⟩

theorem infoP : (Tryz.prog.info? 188).map (·.comparable) = some true := by kernel_rfl
theorem infoE : (Tryz.prog.info? 190).map (·.size) = some 1 := by kernel_rfl

theorem same_err (w : World) (a : Addr) : (binOp .eql 28 (.iface 188 (.pointer (some a))) (.iface 188 (.pointer (some a)))).run Tryz.prog w = .ok (.bool true) w := by
  obtain ⟨i, hi, hc⟩ := Option.map_eq_some_iff.1 infoP
  obtain ⟨j, hj, _⟩ := Option.map_eq_some_iff.1 infoE
  exact run_eql_iface_ptr_same w a Tryz.underlying28 Tryz.underlying188 hi hc hj

theorem other_err {w : World} {B : Nat → Addr} {S : List Nat} (hE : EnvN 188 S w B) {g h : Nat} (hg : g ∈ S) (hh : h ∈ S) (hne : g ≠ h) :
    (binOp .eql 28 (.iface 188 (.pointer (some (B g)))) (.iface 188 (.pointer (some (B h))))).run Tryz.prog w = .ok (.bool false) w := by
  obtain ⟨i, hi, hc⟩ := Option.map_eq_some_iff.1 infoP
  obtain ⟨j, hj, hs⟩ := Option.map_eq_some_iff.1 infoE
  obtain ⟨_, c1, t1, h1⟩ := hE.blk g hg
  obtain ⟨_, c2, t2, h2⟩ := hE.blk h hh
  exact run_eql_iface_ptr_other w Tryz.underlying28 Tryz.underlying188 hi hc hj (by rw [hs]; decide) (hE.ne g h hg hh hne) h1 h2

set_option maxRecDepth 100000 in
set_option maxHeartbeats 1000000 in
theorem num_err (B : Nat → Addr) (w : World) (hE : Env w B) (j : Nat) (hj : j < 37) :
    Calls Tryz.prog 9 #[.iface 188 (.pointer (some (B (G j))))] w fun e w' => e = .returned (.int .i64 ((j : Int) + 1)) ∧ Below w.heap.size w w' := by
  have HE := Lib.hid hE; clear hE
  go_enter Tryz.func9, Tryz.ntmps9
  go_wp2_with fail
  refine (list_any B _ HE.out).mono ?_
  rintro e w1 ⟨rfl, hb1⟩
  have HE1 := Lib.hid (HE.out.below hb1)
  have HB1 := Lib.hid hb1; clear hb1
  have hidx := index_arr B
  generalize arr B = cs at *
  have HX := Lib.hid hidx; clear hidx
  go_wp2_with fail
  go_loop [8] (fun i => ∃ k : Nat, k ≤ j ∧ i = .int .i64 k) (fun i => 37 - (intOf i).toNat)
  case atStart => exact ⟨0, Nat.zero_le _, rfl⟩
  case round =>
    obtain ⟨k, hk, rfl⟩ := hrel
    have hx := HX.out k (by omega)
    by_cases hlt : k = j
    · have he := same_err w1 (B (G k))
      subst hlt
      have k36 : (k : Int) ≤ 36 := by omega
      go_wp2
      go_ret
      exact ⟨by rfl, HB1.out⟩
    · have he := other_err HE1.out (G_mem hj) (G_mem (show k < 37 by omega)) (fun e => hlt (G_inj (by omega) hj e.symm))
      have k36 : (k : Int) ≤ 35 := by omega
      go_wp2
      go_round
      case rel => exact ⟨k + 1, by omega, by go_num⟩
      case measure => simp [intOf]; omega

/-- Num: the number of an error, 0 of none. -/
theorem num_any (B : Nat → Addr) (w : World) (hE : Env w B) (n : Nat) (hn : n ≤ 37) :
    Calls Tryz.prog 9 #[ev B n] w fun e w' => e = .returned (.int .i64 n) ∧ Below w.heap.size w w' := by
  unfold ev
  by_cases h : n = 0
  · subst h; exact num_nil w
  · rw [if_neg h]
    refine (num_err B w hE (n - 1) (by omega)).mono fun e w' ⟨he, hb⟩ => ⟨?_, hb⟩
    rw [he, show (((n - 1 : Nat) : Int) + 1) = (n : Int) from by omega]
end Go.Proofs.YthkobjbemmllfaaGreatDoor
