/- remitlaw18.spare: walked. -/
import Derived.Test.YtikkocdbaekjmaaGreatDoorRefD
import Derived.Test.YtikkocdbaekjmaaGreatDoorFeeF
import Derived.Test.YtikkocdbaekjmaaGreatDoorAppRows
import Derived.Test.YtikkocdbaekjmaaGreatDoorHeldR
import Derived.Test.YtikkocdbaekjmaaGreatDoorFeeI
namespace Go.Proofs.YtikkocdbaekjmaaGreatDoor
open Go.RowKit
/-- What Text answers. -/
def txtV (B : Nat → Addr) (n : Nat) (t : Nat → Tier) (l m : Int) : Value :=
  if goodB n t l m = true then .tuple #[.string ⟨(feeTxt n t l m).toArray⟩, .nilIface] else .tuple #[.string ⟨#[]⟩, ev B 7]
set_option maxRecDepth 100000 in
theorem ftext_any (B : Nat → Addr) (A : Option Addr) (n c : Nat) (t : Nat → Tier) (l m : Int) (w : World) (hE : Env w B) (hT : Tiers w A n t) (htab : Tab w) :
    Calls Tryz.prog 15 #[feeV A n c l m] w fun e w' => e = .returned (txtV B n t l m) ∧ Below w.heap.size w w' := by
  have HE := Lib.hid hE; have HT := Lib.hid hT; have HTB := Lib.hid htab
  have HX := Lib.hid (Boxed.new w A n c l m)
  have a1 := check_any B A n c t l m _ (HE.out.below HX.out.below) (hT.imp id fun ⟨b, o, e, hb, hc⟩ => ⟨b, o, e, Nat.lt_of_lt_of_le hb HX.out.below.size, fun i hi =>
    ⟨(HX.out.below.cell (p := ⟨b, o + i * 3, none⟩) hb).trans (hc i hi).1, (HX.out.below.cell (p := ⟨b, o + i * 3 + 1, none⟩) hb).trans (hc i hi).2.1, (HX.out.below.cell (p := ⟨b, o + i * 3 + 2, none⟩) hb).trans (hc i hi).2.2⟩⟩)
  unfold feeV at a1 ⊢
  clear hE hT htab
  go_enter Tryz.func15, Tryz.ntmps15
  go_wp2_with fail
  refine a1.mono ?_
  clear a1
  rintro e w2 ⟨rfl, hb2⟩
  have HX2 := Lib.hid (HX.out.step hb2)
  clear hb2 HX
  have hgg := (HE.out.below HX2.out.below).cell 1 (by decide)
  obtain ⟨x1, x2, x3⟩ := HX2.out.cells
  cases hG : goodB n t l m with
  | false =>
    have R := Lib.hid (show txtV B n t l m = .tuple #[.string ⟨#[]⟩, .iface 293 (.pointer (some (B 0)))] by unfold txtV; rw [hG]; rfl)
    have e7 : chkV B false = .iface 293 (.pointer (some (B 0))) := rfl
    rw [e7]
    clear hG e7
    go_wp2
    go_ret2
    exact ⟨by rw [R.out]; rfl, HX2.out.below⟩
  | true =>
    have e7 : chkV B true = .nilIface := rfl
    rw [e7]
    have R := Lib.hid (show txtV B n t l m = .tuple #[.string ⟨(feeTxt n t l m).toArray⟩, .nilIface] by unfold txtV; rw [if_pos hG])
    have a2 := text_any A n c t l m w2 (HT.out.imp id fun ⟨b, o, e, hb, hc⟩ => ⟨b, o, e, Nat.lt_of_lt_of_le hb HX2.out.below.size, fun i hi =>
      ⟨(HX2.out.below.cell (p := ⟨b, o + i * 3, none⟩) hb).trans (hc i hi).1, (HX2.out.below.cell (p := ⟨b, o + i * 3 + 1, none⟩) hb).trans (hc i hi).2.1, (HX2.out.below.cell (p := ⟨b, o + i * 3 + 2, none⟩) hb).trans (hc i hi).2.2⟩⟩)
      (below_tab HTB.out (HX2.out.below)) (goodP hG)
    unfold feeV at a2
    clear e7 hG hgg
    go_wp2_with fail
    refine a2.mono ?_
    clear a2
    rintro e w3 ⟨rfl, hb3⟩
    go_wp2
    go_ret2
    exact ⟨by rw [R.out]; rfl, (HX2.out.step hb3).below⟩

/-- The cells of the first n tiers. -/
def tiersL (t : Nat → Tier) : Nat → List Value
  | 0 => []
  | k + 1 => tiersL t k ++ [.int .i64 (t k).fr, .int .i64 (t k).fl, .int .i64 (t k).rt]
theorem tiersL_length (t : Nat → Tier) : ∀ k, (tiersL t k).length = k * 3
  | 0 => rfl
  | k + 1 => by simp [tiersL, tiersL_length t k]; omega
theorem tiersL_one (t : Nat → Tier) : ∀ k, ∀ u ∈ tiersL t k, u.oneCell' = true
  | 0, u, h => by simp [tiersL] at h
  | k + 1, u, h => by
    simp [tiersL] at h
    rcases h with h | rfl | rfl | rfl
    · exact tiersL_one t k u h
    · rfl
    · rfl
    · rfl
theorem tiersL_at (t : Nat → Tier) : ∀ k i, i < k → (tiersL t k)[i * 3]? = some (.int .i64 (t i).fr) ∧ (tiersL t k)[i * 3 + 1]? = some (.int .i64 (t i).fl) ∧ (tiersL t k)[i * 3 + 2]? = some (.int .i64 (t i).rt)
  | 0, i, h => by omega
  | k + 1, i, h => by
    by_cases e : i = k
    · subst e
      have hl := tiersL_length t i
      refine ⟨?_, ?_, ?_⟩
      · rw [tiersL, List.getElem?_append_right (by omega), hl, Nat.sub_self]; rfl
      · rw [tiersL, List.getElem?_append_right (by omega), hl, show i * 3 + 1 - i * 3 = 1 by omega]; rfl
      · rw [tiersL, List.getElem?_append_right (by omega), hl, show i * 3 + 2 - i * 3 = 2 by omega]; rfl
    · have ih := tiersL_at t k i (by omega)
      have hl := tiersL_length t k
      rw [tiersL, List.getElem?_append_left (by omega), List.getElem?_append_left (by omega), List.getElem?_append_left (by omega)]
      exact ih
/-- A row that holds these tiers, and maybe more behind them. -/
theorem tiers_row {w : World} {B g N cap : Nat} {t : Nat → Tier} {n : Nat} {more : List Value} (h : w.ownsRow B 35 3 (.slice (some ⟨g, 0, none⟩) N cap) N (tiersL t n ++ more)) (hn : 0 < N) :
    B ≤ g ∧ g < w.heap.size ∧ Tiers w (some ⟨g, 0, none⟩) n t ∧ ∀ j u, more[j]? = some u → w.cell? ⟨g, n * 3 + j, none⟩ = some u := by
  obtain ⟨g', cap', e, hB, hg⟩ := h.form hn
  cases e
  have hc := h.cells (g := g) rfl
  have hadd : ∀ i, (⟨g, 0, none⟩ : Addr).add i = ⟨g, i, none⟩ := fun i => by unfold Addr.add; split <;> simp_all
  have hl := tiersL_length t n
  have at' : ∀ i u, i < n * 3 → (tiersL t n)[i]? = some u → w.cell? ⟨g, i, none⟩ = some u := fun i u hi hu => by
    have := hc i u (by rw [List.getElem?_append_left (by omega)]; exact hu)
    rwa [hadd] at this
  refine ⟨hB, hg, .inr ⟨g, 0, rfl, hg, fun i hi => ?_⟩, fun j u hu => ?_⟩
  · obtain ⟨h1, h2, h3⟩ := tiersL_at t n i hi
    rw [Nat.zero_add]
    exact ⟨at' _ _ (by omega) h1, at' _ _ (by omega) h2, at' _ _ (by omega) h3⟩
  · have := hc (n * 3 + j) u (by rw [List.getElem?_append_right (by omega), hl, Nat.add_sub_cancel_left]; exact hu)
    rwa [hadd] at this
theorem tiers_news {w : World} {g o n : Nat} {t : Nat → Tier} (hc : ∀ i, i < n → w.cell? ⟨g, o + i * 3, none⟩ = some (.int .i64 (t i).fr) ∧ w.cell? ⟨g, o + i * 3 + 1, none⟩ = some (.int .i64 (t i).fl) ∧ w.cell? ⟨g, o + i * 3 + 2, none⟩ = some (.int .i64 (t i).rt)) :
    ∀ j u, (tiersL t n)[j]? = some u → w.cell? ((⟨g, o, none⟩ : Addr).add j) = some u := by
  intro j u hu
  have hadd : (⟨g, o, none⟩ : Addr).add j = ⟨g, o + j, none⟩ := by unfold Addr.add; split <;> simp_all
  have hj : j < n * 3 := by
    have := (List.getElem?_eq_some_iff.1 hu).1
    rwa [tiersL_length] at this
  rw [hadd]
  have h2 := tiersL_at t n (j / 3) (by omega)
  have h3 := hc (j / 3) (by omega)
  have e : j % 3 = 0 ∨ j % 3 = 1 ∨ j % 3 = 2 := by omega
  rcases e with e | e | e
  · have ej : j = j / 3 * 3 := by omega
    rw [ej] at hu ⊢
    exact h3.1.trans (h2.1.symm.trans hu)
  · have ej : j = j / 3 * 3 + 1 := by omega
    rw [ej] at hu ⊢
    exact h3.2.1.trans (h2.2.1.symm.trans hu)
  · have ej : j = j / 3 * 3 + 2 := by omega
    rw [ej] at hu ⊢
    exact h3.2.2.trans (h2.2.2.symm.trans hu)
section
variable {w : World} {ops : Array Oper} {rest : List Oper} {o : Oper} {a : Act} {Q : Exit → Act → World → Prop}
/-- The tiers that came in, behind a new empty row. -/
theorem copy_tiers (hgd : o.guard = none) (s x : Operand) (ho : o.op = .call { callee := .builtin .append, args := #[s, x], argTypes := #[23, 23] })
    (B : Nat) (hs : a.eval s = .slice (some ⟨B, 0, none⟩) 0 0) (hb : w.heap[B]? = some (.cells #[] 35 (0, 0))) (A : Option Addr) (n c : Nat) (t : Nat → Tier) (hx : a.eval x = .slice A n c) (hL : Tiers w A n t) (hn : n * 24 ≤ 140737488355328)
    (hk : ∀ v' w', w'.ownsRow B 35 3 v' n (tiersL t n) → Below B w w' → wpList Tryz.prog ops Q rest (a.put o.dst v') w') :
    wpList Tryz.prog ops Q (o :: rest) a w := by
  obtain ⟨i0, hi0, hzz⟩ := Option.map_eq_some_iff.1 info35
  simp only [Prod.mk.injEq] at hzz
  obtain ⟨hz0, hz1, hz2⟩ := hzz
  have hbase : B ≤ w.heap.size := Nat.le_of_lt (lt_of_block hb)
  have hrow : w.ownsRow B 35 3 (.slice (some ⟨B, 0, none⟩) 0 0) 0 [] := ⟨rfl, .inr ⟨_, 0, #[], rfl, Nat.le_refl _, hb, Nat.le_refl _, Nat.zero_le _, rfl, rfl⟩⟩
  rcases Nat.eq_zero_or_pos n with h0 | h0
  · subst h0
    have hsrc : Src Tryz.prog i0.size 23 (.slice A 0 c) 0 [] w := by
      cases A with
      | none => exact Src.ofNil w Tryz.underlying23 c
      | some ad => exact Src.ofSlice w Tryz.underlying23 ad 0 c [] (by simp) (by simp) (by simp)
    have hr := run_append_nothing w 23 23 o.type 35 i0 Tryz.underlying23 hi0 (some ⟨B, 0, none⟩) 0 0 (Nat.le_refl _) (.slice A 0 c) hsrc
    refine wpList_plain hgd fun _ hK => ?_
    unfold Oper.wp execOp
    simp only [ho, resolve, invoke, builtin, Sem.run_bind, Sem.run_pure, Result.andThen_ok, List.map_toArray, List.map_cons, List.map_nil, hs, hx, hr]
    exact hK _ _ (hk _ w hrow (Below.refl _ _))
  · rcases hL with h | ⟨g, off, rfl, hg, hc⟩
    · omega
    refine wpList_append_lies w hgd s x 23 ho B 35 i0 _ 3 24 Tryz.underlying23 hi0 hz0 hz1 hz2 rfl (by decide) _ 0 [] hs hrow ⟨g, off, none⟩ n c (tiersL t n) hx (tiersL_length t n) (tiers_news hc) (tiersL_one t n) h0 (by unfold maxLen; omega) (by omega) hbase _ rfl ?_
    intro g' cap w' h1 h2 h3 _
    rw [Nat.zero_add, List.nil_append] at h1
    rw [Nat.zero_add]
    exact hk _ w' h1 ((Below.refl B w).grown h2 hbase fun k hk => by
      have : some B = some k := hk
      injection this with this
      omega)
end
end Go.Proofs.YtikkocdbaekjmaaGreatDoor
namespace Go.Proofs.YtikkocdbaekjmaaGreatDoor
open Go.RowKit
theorem row_step {w w' : World} {B n : Nat} {v : Value} {xs : List Value} (h : w.ownsRow B 35 3 v n xs) (hb : Below w.heap.size w w') : w'.ownsRow B 35 3 v n xs := by
  rcases h with ⟨h1, h2 | ⟨g, cap, cur, rfl, hB, hg, hr⟩⟩
  · exact ⟨h1, .inl h2⟩
  · exact ⟨h1, .inr ⟨g, cap, cur, rfl, hB, (hb.block g (lt_of_block hg)).trans hg, hr⟩⟩
theorem row_block {w : World} {B n : Nat} {v : Value} {xs : List Value} (h : w.ownsRow B 35 3 v n xs) : ∀ k, v.ownBlock = some k → B ≤ k ∧ k < w.heap.size := by
  intro k hk
  rcases h.2 with ⟨rfl, _⟩ | ⟨g, cap, cur, rfl, hB, hg, _⟩
  · cases hk
  · cases hk
    exact ⟨hB, lt_of_block hg⟩
/-- What spare leaves: a copy with a place behind it. -/
def SparePost (n : Nat) (t : Nat → Tier) (l m : Int) (w : World) (e : Ending) (w' : World) : Prop :=
  ∃ g cap, e = .returned (.tuple #[feeV (some ⟨g, 0, none⟩) n cap l m, .slice (some ⟨g, 0, none⟩) (n + 1 : Nat) cap]) ∧ w.heap.size ≤ g ∧ g < w'.heap.size ∧ Tiers w' (some ⟨g, 0, none⟩) n t ∧ w'.cell? ⟨g, n * 3, none⟩ = some (.int .i64 (-77)) ∧ Below w.heap.size w w'
set_option maxRecDepth 100000 in
set_option maxHeartbeats 4000000 in
theorem spare_any (A : Option Addr) (n c : Nat) (t : Nat → Tier) (l m : Int) (w : World) (hT : Tiers w A n t) (hn : (n + 1) * 24 ≤ 140737488355328) :
    Calls Tryz.prog 14 #[feeV A n c l m] w (SparePost n t l m w) := by
  obtain ⟨i0, hi0, hzz⟩ := Option.map_eq_some_iff.1 info35
  simp only [Prod.mk.injEq] at hzz
  obtain ⟨hz0, hz1, hz2⟩ := hzz
  have HT := Lib.hid hT
  have HX := Lib.hid (Boxed.new w A n c l m)
  have HB1 := Lib.hid (HX.out.below.alloc HX.out.below.size (.cells #[.slice none 0 0, .int .i64 0, .int .i64 0] 25))
  unfold feeV
  clear hT
  have hR0 : ((w.alloc (.cells #[.slice A n c, .int .i64 l, .int .i64 m] 25)).alloc (.cells #[.slice none 0 0, .int .i64 0, .int .i64 0] 25)).heap[w.heap.size + 1]? = some (.cells #[.slice none 0 0, .int .i64 0, .int .i64 0] 25 (0, 0)) := by
    have h1 : (w.alloc (.cells #[.slice A n c, .int .i64 l, .int .i64 m] 25)).heap.size = w.heap.size + 1 := by simp
    rw [← h1]; exact heap_alloc_new _ _
  have hwb : ((w.alloc (.cells #[.slice A n c, .int .i64 l, .int .i64 m] 25)).alloc (.cells #[.slice none 0 0, .int .i64 0, .int .i64 0] 25)).heap.size = w.heap.size + 2 := by simp
  have HBX := Lib.hid (HX.out.step (Below.new _ (.cells #[.slice none 0 0, .int .i64 0, .int .i64 0] 25)))
  have HTc := Lib.hid (HT.out.step HB1.out)
  clear HX HT
  go_enter Tryz.func14, Tryz.ntmps14
  go_upto_region 1 with fail
  generalize (w.alloc (.cells #[.slice A n c, .int .i64 l, .int .i64 m] 25)).alloc (.cells #[.slice none 0 0, .int .i64 0, .int .i64 0] 25) = wb at *
  have hlt : w.heap.size < wb.heap.size := by omega
  have HR0 := Lib.hid hR0
  have HWB := Lib.hid hwb
  clear hR0 hwb
  obtain ⟨x1, x2, x3⟩ := HBX.out.cells
  have HN := Lib.hid (show (wb.alloc (.cells #[] 35)).heap[wb.heap.size]? = some (.cells #[] 35 (0, 0)) from heap_alloc_new wb _)
  have HTd := Lib.hid (HTc.out.step (Below.new wb (.cells #[] 35)))
  clear HTc
  go_wp2_with (at_builtin; first | (refine copy_tiers rfl _ _ rfl wb.heap.size rfl HN.out A n c t rfl HTd.out (by omega) ?_; intro v4 w4 hown hb4; have HO4 := Lib.hid hown; have HB4 := Lib.hid ((Below.new wb (.cells #[] 35)).trans hb4); clear hown hb4) | (go_loud (refine wpList_append_rows (P := Tryz.prog) rfl _ _ 23 rfl wb.heap.size 35 i0 _ 3 24 Tryz.underlying23 hi0 hz0 hz1 hz2 rfl (by decide) v4 n (tiersL t n) rfl (row_step HO4.out (Below.new w4 (.cells #[.int .i64 (-77), .int .i64 0, .int .i64 0] 35))) w4.heap.size _ 1 [.int .i64 (-77), .int .i64 0, .int .i64 0] rfl ⟨rfl, .inr ⟨_, 1, #[.int .i64 (-77), .int .i64 0, .int .i64 0], rfl, Nat.le_refl _, heap_alloc_new w4 _, Nat.le_refl _, by unfold maxLen; decide, rfl, rfl⟩⟩ (by simp [Value.oneCell']) (by unfold maxLen; omega) (by omega) (HB4.out.alloc HB4.out.size _).size ?_); intro v6 w6 hown6 hg6 _; go_loud (have HB6 := Lib.hid ((HB4.out.alloc HB4.out.size (.cells #[.int .i64 (-77), .int .i64 0, .int .i64 0] 35)).grown hg6 (HB4.out.alloc HB4.out.size (.cells #[.int .i64 (-77), .int .i64 0, .int .i64 0] 35)).size fun k hk => (row_block HO4.out k hk).1)); go_loud (obtain ⟨ao, cap, rfl, hcap⟩ := ownsRow_shape hown6); go_loud (obtain ⟨g, cap', he, hge, hgl⟩ := hown6.form (by omega)); go_loud (cases he); have HO6 := Lib.hid hown6; clear hown6 hg6))
  have hcn : n ≤ cap := by omega
  have HR6 := Lib.hid (show w6.heap[w.heap.size + 1]? = some (.cells #[.slice none 0 0, .int .i64 0, .int .i64 0] 25 (0, 0)) from (HB6.out.block _ (by have := HWB.out; omega)).trans HR0.out)
  obtain ⟨x1, x2, x3⟩ := (HBX.out.step HB6.out).cells
  have hl6 : w.heap.size < w6.heap.size := Nat.lt_of_lt_of_le hlt HB6.out.size
  obtain ⟨r0, r1, r2⟩ := box3 HR6.out
  obtain ⟨f0, f1, f2⟩ := thaw3 HR6.out
  refine wp_region_R (S := fun W => W = w6.drew) (late := [11, 12]) (by kernel_rfl) ?_
  refine wpAnyR_takeY (i := 0) (v := .slice (some ⟨g, 0, none⟩) (n + 1) cap) rfl (by kernel_rfl) (by kernel_rfl) (by kernel_rfl) (fun _ _ _ h => h) (Or.inl ⟨by kernel_rfl, ?_⟩) ?_
  · intro W _; go_simp
  try simp only [Act.put, List.getElem_toArray, List.getElem_cons_succ, List.getElem_cons_zero, List.setIfInBounds_toArray, List.set_cons_succ, List.set_cons_zero]
  refine wpAnyR_takeY (i := 1) (v := .pointer (some ⟨w.heap.size, 0, none⟩)) rfl (by kernel_rfl) (by kernel_rfl) (by kernel_rfl) (fun _ _ _ h => h) (Or.inl ⟨by kernel_rfl, ?_⟩) ?_
  · intro W _; go_simp
  try simp only [Act.put, List.getElem_toArray, List.getElem_cons_succ, List.getElem_cons_zero, List.setIfInBounds_toArray, List.set_cons_succ, List.set_cons_zero]
  refine wpAnyR_take (i := 2) (v := .slice A n c) rfl (by kernel_rfl) (by kernel_rfl) (by kernel_rfl) (by kernel_rfl) (by kernel_rfl) (fun _ _ _ h => h) (Or.inl ⟨by kernel_rfl, ?_⟩) rfl ?_
  · intro W hSw; subst hSw; go_simp
  try simp only [Act.put, List.getElem_toArray, List.getElem_cons_succ, List.getElem_cons_zero, List.setIfInBounds_toArray, List.set_cons_succ, List.set_cons_zero]
  refine wpAnyR_takeY (i := 3) (v := .int .i64 n) rfl (by kernel_rfl) (by kernel_rfl) (by kernel_rfl) (fun _ _ _ h => h) (Or.inl ⟨by kernel_rfl, ?_⟩) ?_
  · intro W _; go_simp
  try simp only [Act.put, List.getElem_toArray, List.getElem_cons_succ, List.getElem_cons_zero, List.setIfInBounds_toArray, List.set_cons_succ, List.set_cons_zero]
  refine wpAnyR_takeY (i := 4) (v := .slice (some ⟨g, 0, none⟩) n cap) rfl (by kernel_rfl) (by kernel_rfl) (by kernel_rfl) (fun _ _ _ h => h) (Or.inl ⟨by kernel_rfl, ?_⟩) ?_
  · intro W _; go_simp
  try simp only [Act.put, List.getElem_toArray, List.getElem_cons_succ, List.getElem_cons_zero, List.setIfInBounds_toArray, List.set_cons_succ, List.set_cons_zero]
  refine wpAnyR_takeY (i := 5) (v := .pointer (some ⟨w.heap.size, 1, none⟩)) rfl (by kernel_rfl) (by kernel_rfl) (by kernel_rfl) (fun _ _ _ h => h) (Or.inl ⟨by kernel_rfl, ?_⟩) ?_
  · intro W _; go_simp
  try simp only [Act.put, List.getElem_toArray, List.getElem_cons_succ, List.getElem_cons_zero, List.setIfInBounds_toArray, List.set_cons_succ, List.set_cons_zero]
  refine wpAnyR_take (i := 6) (v := .int .i64 l) rfl (by kernel_rfl) (by kernel_rfl) (by kernel_rfl) (by kernel_rfl) (by kernel_rfl) (fun _ _ _ h => h) (Or.inl ⟨by kernel_rfl, ?_⟩) rfl ?_
  · intro W hSw; subst hSw; go_simp
  try simp only [Act.put, List.getElem_toArray, List.getElem_cons_succ, List.getElem_cons_zero, List.setIfInBounds_toArray, List.set_cons_succ, List.set_cons_zero]
  refine wpAnyR_takeY (i := 7) (v := .pointer (some ⟨w.heap.size, 2, none⟩)) rfl (by kernel_rfl) (by kernel_rfl) (by kernel_rfl) (fun _ _ _ h => h) (Or.inl ⟨by kernel_rfl, ?_⟩) ?_
  · intro W _; go_simp
  try simp only [Act.put, List.getElem_toArray, List.getElem_cons_succ, List.getElem_cons_zero, List.setIfInBounds_toArray, List.set_cons_succ, List.set_cons_zero]
  refine wpAnyR_take (i := 8) (v := .int .i64 m) rfl (by kernel_rfl) (by kernel_rfl) (by kernel_rfl) (by kernel_rfl) (by kernel_rfl) (fun _ _ _ h => h) (Or.inl ⟨by kernel_rfl, ?_⟩) rfl ?_
  · intro W hSw; subst hSw; go_simp
  try simp only [Act.put, List.getElem_toArray, List.getElem_cons_succ, List.getElem_cons_zero, List.setIfInBounds_toArray, List.set_cons_succ, List.set_cons_zero]
  refine wpAnyR_takeY (i := 9) (v := .agg #[.slice (some ⟨g, 0, none⟩) n cap, .int .i64 l, .int .i64 m]) rfl (by kernel_rfl) (by kernel_rfl) (by kernel_rfl) (fun _ _ _ h => h) (Or.inl ⟨by kernel_rfl, ?_⟩) ?_
  · intro W _; go_simp
  try simp only [Act.put, List.getElem_toArray, List.getElem_cons_succ, List.getElem_cons_zero, List.setIfInBounds_toArray, List.set_cons_succ, List.set_cons_zero]
  refine wpAnyR_takeY (i := 10) (v := .slice (some ⟨g, 0, none⟩) (n + 1) cap) rfl (by kernel_rfl) (by kernel_rfl) (by kernel_rfl) (fun _ _ _ h => h) (Or.inl ⟨by kernel_rfl, ?_⟩) ?_
  · intro W _; go_simp
  try simp only [Act.put, List.getElem_toArray, List.getElem_cons_succ, List.getElem_cons_zero, List.setIfInBounds_toArray, List.set_cons_succ, List.set_cons_zero]
  refine wpAnyR_one (i := 11) (by kernel_rfl) rfl (fun K hK => ?_)
  go_simp
  refine hK.out _ _ (.inl rfl) ?_
  clear hK K
  try simp only [Act.put, List.getElem_toArray, List.getElem_cons_succ, List.getElem_cons_zero, List.setIfInBounds_toArray, List.set_cons_succ, List.set_cons_zero]
  refine wpAnyR_one (i := 12) (by kernel_rfl) rfl (fun K hK => ?_)
  go_simp
  refine hK.out _ _ (.inl rfl) ?_
  clear hK K
  try simp only [Act.put, List.getElem_toArray, List.getElem_cons_succ, List.getElem_cons_zero, List.setIfInBounds_toArray, List.set_cons_succ, List.set_cons_zero]
  refine wpAnyR_done (by kernel_rfl) ?_ _
  have hne : w.heap.size + 1 ≠ g := by have := HWB.out; omega
  have hk : ∀ o, (((w6.setCell ⟨w.heap.size + 1, 0, none⟩ (.slice (some ⟨g, 0, none⟩) n cap)).setCell ⟨w.heap.size + 1, 1, none⟩ (.int .i64 l)).setCell ⟨w.heap.size + 1, 2, none⟩ (.int .i64 m)).cell? ⟨g, o, none⟩ = w6.cell? ⟨g, o, none⟩ := fun o => by
    rw [World.cell?_setCell_other _ _ _ _ (fun e => hne (congrArg Addr.block e)), World.cell?_setCell_other _ _ _ _ (fun e => hne (congrArg Addr.block e)), World.cell?_setCell_other _ _ _ _ (fun e => hne (congrArg Addr.block e))]
  obtain ⟨s0, s1, s2⟩ := box3 (heap_set_at (heap_set_at (heap_set_at HR6.out (i := 0) (.slice (some ⟨g, 0, none⟩) n cap)) (i := 1) (.int .i64 l)) (i := 2) (.int .i64 m))
  have HB7 := Lib.hid ((((HB1.out.trans (HB6.out.mono HB1.out.size)).setCell (p := ⟨w.heap.size + 1, 0, none⟩) (Nat.le_succ _) (.slice (some ⟨g, 0, none⟩) n cap)).setCell (p := ⟨w.heap.size + 1, 1, none⟩) (Nat.le_succ _) (.int .i64 l)).setCell (p := ⟨w.heap.size + 1, 2, none⟩) (Nat.le_succ _) (.int .i64 m))
  have hsz7 : (((w6.setCell ⟨w.heap.size + 1, 0, none⟩ (.slice (some ⟨g, 0, none⟩) n cap)).setCell ⟨w.heap.size + 1, 1, none⟩ (.int .i64 l)).setCell ⟨w.heap.size + 1, 2, none⟩ (.int .i64 m)).heap.size = w6.heap.size := by simp
  generalize ((w6.setCell ⟨w.heap.size + 1, 0, none⟩ (.slice (some ⟨g, 0, none⟩) n cap)).setCell ⟨w.heap.size + 1, 1, none⟩ (.int .i64 l)).setCell ⟨w.heap.size + 1, 2, none⟩ (.int .i64 m) = w7 at *
  obtain ⟨_, _, ht, hmore⟩ := tiers_row HO6.out (Nat.succ_pos n)
  have HT7 := Lib.hid (show Tiers w7.drew (some ⟨g, 0, none⟩) n t from ht.imp id fun ⟨b, o, e, hb, hc⟩ => ⟨b, o, e, by show b < w7.heap.size; rw [hsz7]; exact hb, fun i hi => by
    cases e
    obtain ⟨h1, h2, h3⟩ := hc i hi
    exact ⟨(hk _).trans h1, (hk _).trans h2, (hk _).trans h3⟩⟩)
  have HM := Lib.hid (show w7.drew.cell? ⟨g, n * 3, none⟩ = some (.int .i64 (-77)) from (hk _).trans (hmore 0 _ rfl))
  clear ht hmore hk
  have s0 : w7.drew.cell? ⟨w.heap.size + 1, 0, none⟩ = _ := s0
  have s1 : w7.drew.cell? ⟨w.heap.size + 1, 1, none⟩ = _ := s1
  have s2 : w7.drew.cell? ⟨w.heap.size + 1, 2, none⟩ = _ := s2
  go_wp2
  refine bodyPost_ret (by simp [results, Tryz.results14, go_sem, s0, s1, s2]; rfl) rfl ?_
  exact ⟨g, cap, rfl, by have := HWB.out; omega, by show g < w7.heap.size; rw [hsz7]; exact hgl, HT7.out, HM.out, HB7.out.drew⟩
end Go.Proofs.YtikkocdbaekjmaaGreatDoor
