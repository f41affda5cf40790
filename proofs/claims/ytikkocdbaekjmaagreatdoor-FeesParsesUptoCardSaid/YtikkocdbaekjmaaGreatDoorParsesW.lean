/- remitlaw18.FeesParses: walked. -/
import Derived.LaidLaws
import Derived.Deep.DeepHandedRow
import Derived.Test.YtikkocdbaekjmaaGreatDoorRParse
import Derived.Test.YtikkocdbaekjmaaGreatDoorSameS
import Derived.Test.YtikkocdbaekjmaaGreatDoorFeeI
namespace Go.Proofs.YtikkocdbaekjmaaGreatDoor
open Go
theorem witness_row_shaped {H : Type} {enc : TypeId × Value → H} {C : Checked} {os : Os} {f : FuncId} {fn : Func} {s : OpenSpec} {conds : List PathCond} {apart : Bool} {laid : List (String × DataW Unit)} (modest : Bool) (w0 : World) (args : Array Value) (hos : w0.os = os)
    (hsh : (w0.forCall (fun _ _ => 0) ⟨#[], args, []⟩).Shaped C.prog)
    (hok : Input.okWideB C.prog (w0.forCall (fun _ _ => 0) ⟨#[], args, []⟩) f ⟨#[], args, []⟩ = true)
    (hrow : s.preRow enc C.prog fn conds apart laid (w0.forCall (fun _ _ => 0) ⟨#[], args, []⟩).memory args) :
    ∃ (w : World) (tape : Tape) (i : Input), w.os = os ∧ (w.forCall tape i).Shaped C.prog ∧ i.vars = [] ∧ Input.okWide C.prog (w.forCall tape i) .any w.heap.size f i ∧
      s.preRow enc C.prog fn conds apart laid (w.forCall tape i).memory i.args ∧ ({ modest := modest } : Assume).holds C.prog (lone (Frame.enter C.prog f i.args .normal) [] (w.forCall tape i)) :=
  ⟨w0, fun _ _ => 0, ⟨#[], args, []⟩, hos, hsh, (Input.okWide_of_okWideB (base := 0) hok).1, (Input.okWide_of_okWideB hok).2, hrow, by
    simp only [Assume.holds]
    exact ⟨by simp, by simp, fun _ => Modest.zero, by simp, by simp⟩⟩
end Go.Proofs.YtikkocdbaekjmaaGreatDoor
namespace Go.Proofs.YtikkocdbaekjmaaGreatDoor
open Go.RowKit
theorem tiersEq_me (t : Nat → Tier) : ∀ n, tiersEq t t n = true
  | 0 => rfl
  | n + 1 => by unfold tiersEq tierEq; rw [tiersEq_me t n]; simp
theorem sameB_me (n : Nat) (t : Nat → Tier) (l m : Int) : sameB n t l m n t l m = true := by unfold sameB; rw [tiersEq_me]; simp
/-- What the two Parses have in common. -/
theorem parse_pair (B : Nat → Addr) (s : ByteArray) : ∃ (ts : List (Nat × Nat × Nat)) (l m k : Nat), k ≤ 37 ∧ ts.length ≤ 6 ∧
    (∀ w e w', ParsePost B w s e w' → Below w.heap.size w w' ∧ ∃ A c, OwnT w' w.heap.size (.slice A ts.length c) ts ∧ e = .returned (.tuple #[.agg #[.slice A ts.length c, .int .i64 (l : Nat), .int .i64 (m : Nat)], ev B k])) ∧
    (∀ w e w', RParsePost w s e w' → Below w.heap.size w w' ∧ ∃ A c, OwnT w' w.heap.size (.slice A ts.length c) ts ∧ e = .returned (.tuple #[.agg #[.slice A ts.length c, .int .i64 (l : Nat), .int .i64 (m : Nat)], .int .i64 k])) := by
  cases h : parseF s with
  | none =>
    refine ⟨[], 0, 0, 7, by decide, by decide, fun w e w' hp => ⟨hp.1, ?_⟩, fun w e w' hp => ⟨hp.1, ?_⟩⟩
    · rcases hp.2 with ⟨_, _, _, _, _, h2, _⟩ | ⟨_, rfl⟩
      · rw [h] at h2; cases h2
      · exact ⟨none, 0, OwnT.nil _ _, rfl⟩
    · rcases hp.2 with ⟨_, _, _, _, _, h2, _⟩ | ⟨_, rfl⟩
      · rw [h] at h2; cases h2
      · exact ⟨none, 0, OwnT.nil _ _, rfl⟩
  | some F =>
    obtain ⟨ts, l, m⟩ := F
    have hg := goodP (parseF_iff.1 h).1
    refine ⟨ts, l, m, 0, by decide, hg.n6, fun w e w' hp => ⟨hp.1, ?_⟩, fun w e w' hp => ⟨hp.1, ?_⟩⟩
    · rcases hp.2 with ⟨ts2, l2, m2, A, c, h2, ho, rfl⟩ | ⟨h2, _⟩
      · rw [h] at h2; cases h2; exact ⟨A, c, ho, rfl⟩
      · rw [h] at h2; cases h2
    · rcases hp.2 with ⟨ts2, l2, m2, A, c, h2, ho, rfl⟩ | ⟨h2, _⟩
      · rw [h] at h2; cases h2; exact ⟨A, c, ho, rfl⟩
      · rw [h] at h2; cases h2
/-- What stands from the third Parse on: the two later schedules' blocks. -/
structure LP (w0 w6 w : World) (g3 : Nat) : Prop where
  below : Below w0.heap.size w0 w
  size : w6.heap.size ≤ w.heap.size
  keep : ∀ k, g3 < k → k < w6.heap.size → w.heap[k]? = w6.heap[k]?
theorem LP.step {w0 w6 w w' : World} {g3 : Nat} (h : LP w0 w6 w g3) (hb : Below w.heap.size w w') : LP w0 w6 w' g3 :=
  ⟨h.below.trans (hb.mono h.below.size), Nat.le_trans h.size hb.size, fun k h1 h2 => (hb.block k (Nat.lt_of_lt_of_le h2 h.size)).trans (h.keep k h1 h2)⟩
theorem LP.put {w0 w6 w : World} {g3 k i : Nat} (h : LP w0 w6 w g3) (h0 : w0.heap.size ≤ k) (hk : k ≤ g3) (u : Value) : LP w0 w6 (w.setCell ⟨k, i, none⟩ u) g3 :=
  ⟨h.below.setCell (p := ⟨k, i, none⟩) h0 u, by rw [show (w.setCell ⟨k, i, none⟩ u).heap.size = w.heap.size by simp [World.setCell]]; exact h.size, fun j h1 h2 => (Below.heap_setCell w ⟨k, i, none⟩ u j (by show j ≠ k; omega)).trans (h.keep j h1 h2)⟩
theorem LP.grown {w0 w6 w w' : World} {g3 : Nat} {row : Option Nat} (h : LP w0 w6 w g3) (hg : w.grownBy w' row) (hr : ∀ k, row = some k → w0.heap.size ≤ k ∧ k ≤ g3) : LP w0 w6 w' g3 :=
  ⟨h.below.grown hg h.below.size fun k hk => (hr k hk).1, Nat.le_trans h.size hg.size, fun k h1 h2 => (hg.block k (Nat.lt_of_lt_of_le h2 h.size) (fun e => by have := (hr k e.symm).2; omega)).trans (h.keep k h1 h2)⟩
theorem LP.tiers {w0 w6 w : World} {g3 B c : Nat} {A : Option Addr} {ts : List (Nat × Nat × Nat)} (h : LP w0 w6 w g3) (ho : OwnT w6 B (.slice A ts.length c) ts) (hB : g3 < B) : Tiers w A ts.length (tierAt ts) :=
  tiers_own (ho.keep fun k hk => h.keep k (Nat.lt_of_lt_of_le hB (ho.block k hk).1) (ho.block k hk).2.1)
theorem LP.box {w0 w6 w : World} {g3 k : Nat} {c : Array Value} {t : TypeId} (h : LP w0 w6 w g3) (hk : w6.heap[k]? = some (.cells c t (0, 0))) (hB : g3 < k) : w.heap[k]? = some (.cells c t (0, 0)) :=
  (h.keep k hB (lt_of_block hk)).trans hk
section
variable {w : World} {ops : Array Oper} {rest : List Oper} {o : Oper} {a : Act} {Q : Exit → Act → World → Prop}
theorem append_row3 (hgd : o.guard = none) (s x : Operand) (ho : o.op = .call { callee := .builtin .append, args := #[s, x], argTypes := #[23, 23] })
    (B : Nat) (v : Value) (n : Nat) (xs : List Value) (hs : a.eval s = v) (hown : w.ownsRow B 35 3 v n xs) (g : Nat) (i j k : Int) (hx : a.eval x = .slice (some ⟨g, 0, none⟩) 1 1) (hg : w.heap[g]? = some (.cells #[.int .i64 i, .int .i64 j, .int .i64 k] 35 (0, 0)))
    (hlen : n ≤ 1000) (hB : B ≤ w.heap.size)
    (h : ∀ v' w', w'.ownsRow B 35 3 v' (n + 1) (xs ++ [.int .i64 i, .int .i64 j, .int .i64 k]) → w.grownBy w' v.ownBlock → wpList Tryz.prog ops Q rest (a.put o.dst v') w') : wpList Tryz.prog ops Q (o :: rest) a w := by
  obtain ⟨i0, hi, hzz⟩ := Option.map_eq_some_iff.1 info35
  simp only [Prod.mk.injEq] at hzz
  obtain ⟨hz, hsz, hby⟩ := hzz
  have hsrc : w.ownsRow g 35 3 (.slice (some ⟨g, 0, none⟩) 1 1) 1 [.int .i64 i, .int .i64 j, .int .i64 k] := ⟨rfl, .inr ⟨g, 1, #[.int .i64 i, .int .i64 j, .int .i64 k], rfl, Nat.le_refl _, hg, Nat.le_refl _, by unfold maxLen; decide, rfl, rfl⟩⟩
  exact wpList_append_rows (P := Tryz.prog) hgd s x 23 ho B 35 i0 _ 3 24 Tryz.underlying23 hi hz hsz hby rfl (by decide) v n _ hs hown g _ 1 _ hx hsrc (by simp [Value.oneCell']) (by unfold maxLen; omega) (by omega) hB fun v' w' h1 h2 _ => h v' w' h1 h2
end
theorem row_kept {w w' : World} {B n : Nat} {v : Value} {xs : List Value} (h : w.ownsRow B 35 3 v n xs) (hb : ∀ k, v.ownBlock = some k → w'.heap[k]? = w.heap[k]?) : w'.ownsRow B 35 3 v n xs := by
  rcases h with ⟨h1, h2 | ⟨g, cap, cur, rfl, hB, hg, hr⟩⟩
  · exact ⟨h1, .inl h2⟩
  · exact ⟨h1, .inr ⟨g, cap, cur, rfl, hB, (hb g rfl).trans hg, hr⟩⟩
theorem row_block3 {w : World} {B n : Nat} {v : Value} {xs : List Value} (h : w.ownsRow B 35 3 v n xs) : ∀ k, v.ownBlock = some k → B ≤ k ∧ k < w.heap.size ∧ ∃ cur, w.heap[k]? = some (.cells cur 35 (0, 0)) := by
  intro k hk
  rcases h.2 with ⟨rfl, _⟩ | ⟨g, cap, cur, rfl, hB, hg, _⟩
  · cases hk
  · cases hk
    exact ⟨hB, lt_of_block hg, cur, hg⟩
theorem row_cell {w : World} {B n cap g : Nat} {xs : List Value} (h : w.ownsRow B 35 3 (.slice (some ⟨g, 0, none⟩) n cap) n xs) (j : Nat) (hj : j < n * 3) : (∃ x, w.cell? ⟨g, j, none⟩ = some x) ∧ w.frozen? ⟨g, j, none⟩ = false := by
  refine ⟨?_, World.ownsRow.frozenAt h j⟩
  rw [World.ownsRow.cellAt h j hj]
  have hl := h.1
  exact ⟨_, List.getElem?_eq_getElem (by omega)⟩
set_option maxRecDepth 100000 in
set_option maxHeartbeats 4000000 in
theorem parses_walk (B : Nat → Addr) (s : ByteArray) (M : Int) (w : World) (hs : s.size ≤ 100000000) (hm : w.cell? ⟨39, 0, none⟩ = some (.int .i64 M)) (hE : Env w B) (htab : Tab w) :
    Calls Tryz.prog 3 #[.string s] w fun e w' => e = .returned (.bool true) ∧ Below w.heap.size w w' := by
  have HE := Lib.hid hE; have HTB := Lib.hid htab; have HM := Lib.hid hm
  obtain ⟨ts, l, m, k, hk, hn6, hp1, hp2⟩ := parse_pair B s
  have HP1 := Lib.hid hp1; have HP2 := Lib.hid hp2
  have a1 := lives_any B M w hm hE htab
  have AP := Lib.hid (show ∀ wx, Below w.heap.size w wx → Calls Tryz.prog 7 #[.string s] wx fun e w' => Below wx.heap.size wx w' ∧ ∃ A c, OwnT w' wx.heap.size (.slice A ts.length c) ts ∧ e = .returned (.tuple #[.agg #[.slice A ts.length c, .int .i64 (l : Nat), .int .i64 (m : Nat)], ev B k]) from
    fun wx hb => (parse_any B s M wx (by omega) ((hb.cell (p := ⟨39, 0, none⟩) (World.block_lt_of_cell? _ _ HM.out)).trans HM.out) (HE.out.below hb) (tab_below HTB.out hb)).mono fun e w' h => HP1.out wx e w' h)
  have AR := Lib.hid (show ∀ wx, Below w.heap.size w wx → Calls Tryz.prog 8 #[.string s] wx fun e w' => Below wx.heap.size wx w' ∧ ∃ A c, OwnT w' wx.heap.size (.slice A ts.length c) ts ∧ e = .returned (.tuple #[.agg #[.slice A ts.length c, .int .i64 (l : Nat), .int .i64 (m : Nat)], .int .i64 k]) from
    fun wx hb => (rparse_any s wx hs).mono fun e w' h => HP2.out wx e w' h)
  have AN := Lib.hid (show ∀ wx (j : Nat), j ≤ 37 → Below w.heap.size w wx → Calls Tryz.prog 9 #[ev B j] wx fun e w' => e = .returned (.int .i64 j) ∧ Below wx.heap.size wx w' from fun wx j hj hb => num_any B wx (HE.out.below hb) j hj)
  clear hE htab hm hp1 hp2
  go_enter Tryz.func3, Tryz.ntmps3
  go_wp2_with fail
  refine a1.mono ?_
  clear a1
  rintro e w1 ⟨rfl, hb1⟩
  have HB1 := Lib.hid hb1
  have a2 := AP.out w1 hb1
  go_wp2_with fail
  refine a2.mono ?_
  clear a2 hb1
  rintro e w2 ⟨hb2, Aa, ca, hoa, rfl⟩
  have HOA := Lib.hid hoa
  have HB2 := Lib.hid (HB1.out.trans (hb2.mono HB1.out.size))
  have HB3 := Lib.hid (HB2.out.alloc HB2.out.size (.cells #[.slice Aa ts.length ca, .int .i64 (l : Nat), .int .i64 (m : Nat)] 25))
  have a3 := AP.out _ HB3.out
  have HGA := Lib.hid (show ∀ k, (Value.slice Aa ts.length ca).ownBlock = some k → w.heap.size ≤ k ∧ k < w2.heap.size from fun k hk => ⟨Nat.le_trans HB1.out.size (hoa.block k hk).1, (hoa.block k hk).2.1⟩)
  have HX3 := Lib.hid (show (w2.alloc (.cells #[.slice Aa ts.length ca, .int .i64 (l : Nat), .int .i64 (m : Nat)] 25)).heap[w2.heap.size]? = some (.cells #[.slice Aa ts.length ca, .int .i64 (l : Nat), .int .i64 (m : Nat)] 25 (0, 0)) from heap_alloc_new w2 _)
  have HA3 := Lib.hid (HOA.out.step (Below.new w2 (.cells #[.slice Aa ts.length ca, .int .i64 (l : Nat), .int .i64 (m : Nat)] 25)))
  have hsz3 : (w2.alloc (.cells #[.slice Aa ts.length ca, .int .i64 (l : Nat), .int .i64 (m : Nat)] 25)).heap.size = w2.heap.size + 1 := by simp
  have hwg : w.heap.size ≤ w2.heap.size := HB2.out.size
  have HW1 := Lib.hid (show w1.heap.size ≤ w2.heap.size from hb2.size)
  clear hb2 hoa HOA
  go_upto_region 4 with fail
  generalize w2.alloc (.cells #[.slice Aa ts.length ca, .int .i64 (l : Nat), .int .i64 (m : Nat)] 25) = w3 at *
  generalize w2.heap.size = g3 at *
  go_wp2_with fail
  refine a3.mono ?_
  clear a3
  rintro e w4 ⟨hb4, Ab, cb, hob, rfl⟩
  have hs34 := hb4.size
  have HB5 := Lib.hid ((HB3.out.trans (hb4.mono HB3.out.size)).alloc (HB3.out.trans (hb4.mono HB3.out.size)).size (.cells #[.slice Ab ts.length cb, .int .i64 (l : Nat), .int .i64 (m : Nat)] 25))
  have HX5 := Lib.hid (alloc_old ((hb4.block _ (lt_of_block HX3.out)).trans HX3.out) (.cells #[.slice Ab ts.length cb, .int .i64 (l : Nat), .int .i64 (m : Nat)] 25))
  have HA5 := Lib.hid ((HA3.out.step hb4).step (Below.new w4 (.cells #[.slice Ab ts.length cb, .int .i64 (l : Nat), .int .i64 (m : Nat)] 25)))
  have HBB5 := Lib.hid (hob.step (Below.new w4 (.cells #[.slice Ab ts.length cb, .int .i64 (l : Nat), .int .i64 (m : Nat)] 25)))
  have HY5 := Lib.hid (show (w4.alloc (.cells #[.slice Ab ts.length cb, .int .i64 (l : Nat), .int .i64 (m : Nat)] 25)).heap[w4.heap.size]? = some (.cells #[.slice Ab ts.length cb, .int .i64 (l : Nat), .int .i64 (m : Nat)] 25 (0, 0)) from heap_alloc_new w4 _)
  have hsz5 : (w4.alloc (.cells #[.slice Ab ts.length cb, .int .i64 (l : Nat), .int .i64 (m : Nat)] 25)).heap.size = w4.heap.size + 1 := by simp
  have a5 := AR.out _ HB5.out
  clear hb4 hob HX3 HA3 HB3
  go_upto_region 5 with fail
  generalize w4.alloc (.cells #[.slice Ab ts.length cb, .int .i64 (l : Nat), .int .i64 (m : Nat)] 25) = w5 at *
  generalize w4.heap.size = g5 at *
  go_wp2_with fail
  refine a5.mono ?_
  clear a5
  rintro e w6 ⟨hb6, Ac, cc, hoc, rfl⟩
  have hs56 := hb6.size
  have HB7 := Lib.hid ((HB5.out.trans (hb6.mono HB5.out.size)).alloc (HB5.out.trans (hb6.mono HB5.out.size)).size (.cells #[.slice Ac ts.length cc, .int .i64 (l : Nat), .int .i64 (m : Nat)] 25))
  have HX7 := Lib.hid (alloc_old ((hb6.block _ (lt_of_block HX5.out)).trans HX5.out) (.cells #[.slice Ac ts.length cc, .int .i64 (l : Nat), .int .i64 (m : Nat)] 25))
  have HA7 := Lib.hid ((HA5.out.step hb6).step (Below.new w6 (.cells #[.slice Ac ts.length cc, .int .i64 (l : Nat), .int .i64 (m : Nat)] 25)))
  have HBB7 := Lib.hid ((HBB5.out.step hb6).step (Below.new w6 (.cells #[.slice Ac ts.length cc, .int .i64 (l : Nat), .int .i64 (m : Nat)] 25)))
  have HY7 := Lib.hid (alloc_old ((hb6.block _ (lt_of_block HY5.out)).trans HY5.out) (.cells #[.slice Ac ts.length cc, .int .i64 (l : Nat), .int .i64 (m : Nat)] 25))
  have HCC7 := Lib.hid (hoc.step (Below.new w6 (.cells #[.slice Ac ts.length cc, .int .i64 (l : Nat), .int .i64 (m : Nat)] 25)))
  have HZ7 := Lib.hid (show (w6.alloc (.cells #[.slice Ac ts.length cc, .int .i64 (l : Nat), .int .i64 (m : Nat)] 25)).heap[w6.heap.size]? = some (.cells #[.slice Ac ts.length cc, .int .i64 (l : Nat), .int .i64 (m : Nat)] 25 (0, 0)) from heap_alloc_new w6 _)
  clear hb6 hoc HX5 HA5 HBB5 HY5 HB5
  go_upto_region 6 with fail
  generalize w6.alloc (.cells #[.slice Ac ts.length cc, .int .i64 (l : Nat), .int .i64 (m : Nat)] 25) = w7 at *
  generalize w6.heap.size = g7 at *
  rw [hsz3] at HBB7
  have h35 : g3 < g5 := by omega
  have h37 : g3 < g7 := by omega
  have hbc : g3 < w5.heap.size := by omega
  have HL7 := Lib.hid (show LP w w7 w7 g3 from ⟨HB7.out, Nat.le_refl _, fun _ _ _ => rfl⟩)
  have T2 := Lib.hid (show ∀ wx, LP w w7 wx g3 → Tiers wx Ab ts.length (tierAt ts) ∧ Tiers wx Ac ts.length (tierAt ts) from fun wx h => ⟨h.tiers HBB7.out (Nat.lt_succ_self _), h.tiers HCC7.out hbc⟩)
  have BX := Lib.hid (show ∀ wx, LP w w7 wx g3 → wx.heap[g5]? = some (.cells #[.slice Ab ts.length cb, .int .i64 (l : Nat), .int .i64 (m : Nat)] 25 (0, 0)) ∧ wx.heap[g7]? = some (.cells #[.slice Ac ts.length cc, .int .i64 (l : Nat), .int .i64 (m : Nat)] 25 (0, 0)) from fun wx h => ⟨h.box HY7.out h35, h.box HZ7.out h37⟩)
  clear HBB7 HCC7 HY7 HZ7 hsz3 hsz5 hs34 hs56 AP AR HP1 HP2 HB7
  have q2 : ((k : Int) == (k : Int)) = true := beq_self_eq_true _
  have a8 := AN.out w7 k hk HL7.out.below
  go_wp2_with fail
  refine a8.mono ?_
  clear a8
  rintro e w8 ⟨rfl, hb8⟩
  have HL8 := Lib.hid (HL7.out.step hb8); have HX8 := Lib.hid ((hb8.block _ (lt_of_block HX7.out)).trans HX7.out); have HA8 := Lib.hid (HA7.out.step hb8)
  clear hb8 HL7 HX7 HA7
  have a9 := AN.out w8 k hk HL8.out.below
  go_wp2_with fail
  refine a9.mono ?_
  clear a9 AN
  rintro e w9 ⟨rfl, hb9⟩
  have HL9 := Lib.hid (HL8.out.step hb9); have HX9 := Lib.hid ((hb9.block _ (lt_of_block HX8.out)).trans HX8.out); have HA9 := Lib.hid (HA8.out.step hb9)
  clear hb9 HL8 HX8 HA8
  have a10 := same_any Aa Ac ts.length ca ts.length cc (tierAt ts) (tierAt ts) l m l m w9 (tiers_own HA9.out) (T2.out _ HL9.out).2 (by omega)
  rw [sameB_me] at a10
  unfold feeV at a10
  obtain ⟨x0, x1, x2⟩ := box3 HX9.out
  obtain ⟨z0, z1, z2⟩ := box3 (BX.out _ HL9.out).2
  go_wp2_with fail
  refine a10.mono ?_
  clear a10 x0 x1 x2 z0 z1 z2
  rintro e w10 ⟨rfl, hb10⟩
  have HL10 := Lib.hid (HL9.out.step hb10); have HX10 := Lib.hid ((hb10.block _ (lt_of_block HX9.out)).trans HX9.out); have HA10 := Lib.hid (HA9.out.step hb10)
  clear hb10 HL9 HX9 HA9
  have a11 := same_any Ab Ac ts.length cb ts.length cc (tierAt ts) (tierAt ts) l m l m w10 (T2.out _ HL10.out).1 (T2.out _ HL10.out).2 (by omega)
  rw [sameB_me] at a11
  unfold feeV at a11
  obtain ⟨y0, y1, y2⟩ := box3 (BX.out _ HL10.out).1
  obtain ⟨z0, z1, z2⟩ := box3 (BX.out _ HL10.out).2
  go_wp2_with fail
  refine a11.mono ?_
  clear a11 y0 y1 y2 z0 z1 z2
  rintro e w11 ⟨rfl, hb11⟩
  have HL11 := Lib.hid (HL10.out.step hb11); have HX11 := Lib.hid ((hb11.block _ (lt_of_block HX10.out)).trans HX10.out); have HA11 := Lib.hid (show w11.ownsRow w1.heap.size 35 3 (.slice Aa ts.length ca) ts.length (tCells ts) from HA10.out.step hb11)
  clear hb11 HL10 HX10 HA10 q2
  obtain ⟨x0, x1, x2⟩ := box3 HX11.out
  generalize ts.length = n at *
  go_wp2_with fail
  clear x0 x1 x2
  go_loopw [53] (fun vi wr => ∃ (i : Nat) (xs : List Value), vi = .int .i64 i ∧ i ≤ n ∧ Hid (LP w w7 wr g3) ∧ Hid (wr.heap[g3]? = some (.cells #[.slice Aa n ca, .int .i64 (l : Nat), .int .i64 (m : Nat)] 25 (0, 0))) ∧ Hid (wr.ownsRow w1.heap.size 35 3 (.slice Aa n ca) n xs)) (fun vi _ => n - (intOf vi).toNat)
  case atStart => exact ⟨0, _, rfl, Nat.zero_le _, HL11, HX11, HA11⟩
  case round =>
    obtain ⟨i, xs, rfl, hi, hL, hX, hA⟩ := hrel
    rcases Nat.lt_or_ge i n with h | h
    · have hiI : (i : Int) < n := by omega
      obtain ⟨ga, cap, e, hge, hgl⟩ := World.ownsRow.form hA.out (by omega)
      cases e
      obtain ⟨hg0, hg3⟩ := HGA.out ga rfl
      obtain ⟨⟨v0, c0⟩, f0⟩ := row_cell hA.out (i * 3) (by omega)
      obtain ⟨⟨v1, c1⟩, f1⟩ := row_cell hA.out (i * 3 + 1) (by omega)
      obtain ⟨⟨v2, c2⟩, f2⟩ := row_cell hA.out (i * 3 + 2) (by omega)
      obtain ⟨x0, x1, x2⟩ := box3 hX.out
      have HR := Lib.hid ((World.ownsRow.stored (World.ownsRow.stored (World.ownsRow.stored hA.out (i * 3) (.int .i64 (-9))).1 (i * 3 + 1) (.int .i64 0)).1 (i * 3 + 2) (.int .i64 0)).1)
      have HLR := Lib.hid (((hL.out.put (i := i * 3) hg0 (Nat.le_of_lt hg3) (.int .i64 (-9))).put (i := i * 3 + 1) hg0 (Nat.le_of_lt hg3) (.int .i64 0)).put (i := i * 3 + 2) hg0 (Nat.le_of_lt hg3) (.int .i64 0))
      have HXR := Lib.hid ((Below.heap_setCell _ ⟨ga, i * 3 + 2, none⟩ (.int .i64 0) g3 (by show g3 ≠ ga; omega)).trans ((Below.heap_setCell _ ⟨ga, i * 3 + 1, none⟩ (.int .i64 0) g3 (by show g3 ≠ ga; omega)).trans ((Below.heap_setCell wr ⟨ga, i * 3, none⟩ (.int .i64 (-9)) g3 (by show g3 ≠ ga; omega)).trans hX.out)))
      go_wp2_with fail
      go_roundw
      case rel => exact ⟨i + 1, _, by go_num, h, HLR, HXR, HR⟩
      case measure => simp [intOf]; omega
    · obtain rfl : n = i := by omega
      obtain ⟨x0, x1, x2⟩ := box3 hX.out
      obtain ⟨f0, f1, f2⟩ := thaw3 hX.out
      have hbn := Below.new wr (.cells #[.int .i64 (-8), .int .i64 0, .int .i64 0] 35)
      have HLN := Lib.hid (hL.out.step hbn)
      have HXN := Lib.hid ((hbn.block _ (lt_of_block hX.out)).trans hX.out)
      have HRN := Lib.hid (row_kept hA.out fun k hk => hbn.block k (row_block3 hA.out k hk).2.1)
      have hB1n : w1.heap.size ≤ (wr.alloc (.cells #[.int .i64 (-8), .int .i64 0, .int .i64 0] 35)).heap.size := by
        have h1 : w1.heap.size ≤ g3 := HW1.out
        have h2 := lt_of_block HXN.out
        omega
      have hXL := Lib.hid HRN.out.1
      clear hbn
      go_upto_region 14 with (at_builtin; refine append_row3 rfl _ _ rfl w1.heap.size (.slice Aa n ca) n xs rfl HRN.out wr.heap.size (-8) 0 0 rfl (heap_alloc_new wr _) (by omega) hB1n ?_; intro v6 w6a ho6 hg6; obtain ⟨g6, cap6, e6, hge6, hgl6⟩ := World.ownsRow.form ho6 (Nat.succ_pos n); subst e6; have HO6 := Lib.hid ho6; have HL6 := Lib.hid (HLN.out.grown hg6 fun k hk => ⟨(HGA.out k hk).1, Nat.le_of_lt (HGA.out k hk).2⟩); have hx6 := (hg6.block _ (lt_of_block HXN.out) (fun e => by have := (HGA.out g3 e.symm).2; omega)).trans HXN.out; have HX6 := Lib.hid hx6; obtain ⟨y0, y1, y2⟩ := box3 hx6; obtain ⟨k0, k1, k2⟩ := thaw3 hx6; clear ho6 hg6 hx6 x0 x1 x2 f0 f1 f2)
      obtain ⟨_, hg6b⟩ := row_block3 HO6.out g6 rfl
      have hne6 : g6 ≠ g3 := fun e => by
        obtain ⟨_, cur, hcur⟩ := hg6b
        rw [e, HX6.out] at hcur
        injection hcur with h1; injection h1 with _ h1 _; cases h1
      have hgw : w.heap.size ≤ g3 := hwg
      have HL7 := Lib.hid (HL6.out.put (i := 0) hgw (Nat.le_refl _) (.slice (some ⟨g6, 0, none⟩) (n + 1) cap6))
      have HX7 := Lib.hid (show (w6a.setCell ⟨g3, 0, none⟩ (.slice (some ⟨g6, 0, none⟩) (n + 1) cap6)).heap[g3]? = some (.cells #[.slice (some ⟨g6, 0, none⟩) (n + 1) cap6, .int .i64 (l : Nat), .int .i64 (m : Nat)] 25 (0, 0)) from heap_set_at HX6.out _)
      have HC7 := Lib.hid (show (w6a.setCell ⟨g3, 0, none⟩ (.slice (some ⟨g6, 0, none⟩) (n + 1) cap6)).cell? ⟨g6, n * 3, none⟩ = some (.int .i64 (-8)) by
        rw [World.cell?_of_block (w := w6a) (Below.heap_setCell w6a ⟨g3, 0, none⟩ _ g6 hne6), World.ownsRow.cellAt HO6.out (n * 3) (by omega), List.getElem?_append_right (by have := hXL.out; omega), show n * 3 - xs.length = 0 by have := hXL.out; omega]
        rfl)
      have hg6s : g6 < (w6a.setCell ⟨g3, 0, none⟩ (.slice (some ⟨g6, 0, none⟩) (n + 1) cap6)).heap.size := by rw [show (w6a.setCell ⟨g3, 0, none⟩ (.slice (some ⟨g6, 0, none⟩) (n + 1) cap6)).heap.size = w6a.heap.size by simp [World.setCell]]; exact hgl6
      clear HO6 HL6 HX6 y0 y1 y2 k0 k1 k2 hg6b hne6
      generalize w6a.setCell ⟨g3, 0, none⟩ (.slice (some ⟨g6, 0, none⟩) (n + 1) cap6) = wz at *
      obtain ⟨x0, x1, x2⟩ := box3 HX7.out
      obtain ⟨y0, y1, y2⟩ := box3 (BX.out _ HL7.out).1
      obtain ⟨z0, z1, z2⟩ := box3 (BX.out _ HL7.out).2
      have a12 := same_any Ab Ac n cb n cc (tierAt ts) (tierAt ts) l m l m wz (T2.out _ HL7.out).1 (T2.out _ HL7.out).2 (by omega)
      rw [sameB_me] at a12
      unfold feeV at a12
      go_wp2_with fail
      refine a12.mono ?_
      clear a12 x0 x1 x2 y0 y1 y2 z0 z1 z2
      rintro e wq ⟨rfl, hbq⟩
      have hcq := (hbq.cell (p := ⟨g6, n * 3, none⟩) hg6s).trans HC7.out
      obtain ⟨x0, x1, x2⟩ := box3 ((hbq.block _ (lt_of_block HX7.out)).trans HX7.out)
      have HLQ := Lib.hid (HL7.out.step hbq).below
      have hnI : (n : Int) < n + 1 := by omega
      clear hbq
      go_wp2_with fail
      go_ret
      exact ⟨rfl, HLQ.out⟩
end Go.Proofs.YtikkocdbaekjmaaGreatDoor
