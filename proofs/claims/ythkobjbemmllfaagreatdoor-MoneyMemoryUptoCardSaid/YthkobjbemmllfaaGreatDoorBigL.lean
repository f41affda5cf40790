/- math/big: Int.mul, Int.Mul of two int64 into new memory: walked. -/
import Derived.OrdersHeld
import Derived.Deep.RegionHeld
import Derived.Test.YthkobjbemmllfaaGreatDoorBigK
import Derived.LaidEqlPtr
import Derived.Deep.DrawnRows
namespace Go.Proofs.YthkobjbemmllfaaGreatDoor
open Go

section
variable {P : Program} {ops : Array Oper} {Q : Exit → Act → World → Prop} {md : Region.Mode} {S : World → Prop} {late : List Nat}

def wpAnyE (P : Program) (md : Region.Mode) (ops : Array Oper) (Q : Exit → Act → World → Prop) (S : World → Prop) (late : List Nat) : Nat → Array Bool → Act → World → Prop
  | 0, listed, a, w => Region.ready md ops listed = [] ∧ Q .normal a w
  | fuel + 1, listed, a, w =>
    (Region.ready md ops listed = [] → Q .normal a w) ∧
    ∀ i ∈ Region.ready md ops listed, wpOp P ops Q i (fun a' w' => (late.contains i = true ∨ S w') ∧ wpAnyE P md ops Q S late fuel (listed.setIfInBounds i true) a' w') a w

theorem wpAny_of_E : ∀ (fuel : Nat) (listed : Array Bool) (a : Act) (w : World), wpAnyE P md ops Q S late fuel listed a w → wpAny P md ops Q fuel listed a w
  | 0, _, _, _, h => h
  | fuel + 1, _, _, _, h => ⟨h.1, fun i hi => wpOp_mono (fun a' w' h' => wpAny_of_E fuel _ a' w' h'.2) (h.2 i hi)⟩

/-- Every late operation waits for i. -/
def waitsFor (md : Region.Mode) (ops : Array Oper) (late : List Nat) (i : Nat) : Bool :=
  late.all fun k => match ops[k]? with | some o => o.after.any fun e => Region.binds md e && e.on == i | none => false

theorem wpAnyE_first {i : Nat} {oi : Oper} {v : Value} (hi : ops[i]? = some oi) (hsel : ∀ (j : Nat) (o : Oper) cs b, ops[j]? = some o → o.op ≠ .select cs b)
    (hQ : ∀ c a w, Q (.panic c) (a.put oi.dst v) w → Q (.panic c) a w) (hil : late.contains i = false) (hw : waitsFor md ops late i = true) :
    ∀ (fuel : Nat) (listed : Array Bool) (a : Act) (w : World),
      (∀ j oj, ops[j]? = some oj → j ≠ i → listed.getD j true = false → (∀ e ∈ oj.after, Region.binds md e = true → e.on ≠ i) → oi.apart ops oj = true) →
      i ∈ Region.ready md ops listed → YieldsIf P ops S oi v a → S w →
      wpAnyE P md ops Q S late fuel (listed.setIfInBounds i true) (a.put oi.dst v) w → wpAnyE P md ops Q S late (fuel + 1) listed a w := by
  intro fuel
  induction fuel with
  | zero =>
    intro listed a w _ hr hy hS H
    refine ⟨fun h => (by rw [h] at hr; cases hr), fun j hj => ?_⟩
    by_cases hji : j = i
    · subst hji; exact hy.wpOp hi hS ⟨.inr hS, H⟩
    · have := ready_mono hj hji
      rw [H.1] at this
      cases this
  | succ fuel ih =>
    intro listed a w hfree hr hy hS H
    refine ⟨fun h => (by rw [h] at hr; cases hr), fun j hj => ?_⟩
    by_cases hji : j = i
    · subst hji; exact hy.wpOp hi hS ⟨.inr hS, H⟩
    · have h1 := H.2 j (ready_mono hj hji)
      obtain ⟨hjun, oj, hoj, hall⟩ := mem_ready.1 hj
      have hnot : ∀ e ∈ oj.after, Region.binds md e = true → e.on ≠ i := fun e he hb heq => by
        have h1 := hall e he hb
        have h0 := (mem_ready.1 hr).1
        rw [heq] at h1
        rcases Nat.lt_or_ge i listed.size with h' | h'
        · simp [h'] at h0 h1; rw [h0] at h1; cases h1
        · simp [Array.getElem?_eq_none h'] at h1
      have hjl : late.contains j = false := by
        cases hc : late.contains j with
        | false => rfl
        | true =>
          exfalso
          have hm : j ∈ late := by simpa using hc
          have := List.all_eq_true.1 hw j hm
          rw [hoj] at this
          obtain ⟨e, he, hb⟩ := Array.any_eq_true'.1 this
          simp only [Bool.and_eq_true, beq_iff_eq] at hb
          exact hnot e he hb.1 hb.2
      have h2 := wpOp_putIf hoj (hfree j oj hoj hji hjun hnot) (fun cs b => hsel i oi cs b hi) (fun cs b => hsel j oj cs b hoj) hQ hy h1
      have hfree' : ∀ k ok, ops[k]? = some ok → k ≠ i → (listed.setIfInBounds j true).getD k true = false →
          (∀ e ∈ ok.after, Region.binds md e = true → e.on ≠ i) → oi.apart ops ok = true := fun k ok hk hki hun hno => by
        refine hfree k ok hk hki ?_ hno
        by_cases hjk : j = k
        · subst hjk; exact hjun
        · rw [getD_set_ne true hjk] at hun; exact hun
      refine wpOp_mono (fun a' w' h3 => ?_) h2
      have hS' : S w' := by
        rcases h3.2.1 with h4 | h4
        · rw [hjl] at h4; cases h4
        · exact h4
      refine ⟨.inr hS', ih (listed.setIfInBounds j true) a' w' hfree' (ready_mono hr (Ne.symm hji)) h3.1 hS' ?_⟩
      rw [Array.setIfInBounds_comm _ _ hji]
      exact h3.2.2

theorem wpAnyE_take {i : Nat} {oi : Oper} {v : Value} {fuel : Nat} {listed : Array Bool} {a : Act} {w : World} (hi : ops[i]? = some oi)
    (hs : Region.noSelect ops = true) (hf : Region.free md ops listed i = true) (hr : (Region.ready md ops listed).contains i = true)
    (hil : late.contains i = false) (hw : waitsFor md ops late i = true)
    (hQ : ∀ c a w, Q (.panic c) (a.put oi.dst v) w → Q (.panic c) a w) (hy : YieldsIf P ops S oi v a) (hS : S w)
    (h : wpAnyE P md ops Q S late fuel (listed.setIfInBounds i true) (a.put oi.dst v) w) : wpAnyE P md ops Q S late (fuel + 1) listed a w :=
  wpAnyE_first hi (Region.noSelect_spec hs) hQ hil hw fuel listed a w (Region.free_spec hi hf) (by simpa using hr) hy hS h

def AllReadyE (P : Program) (md : Region.Mode) (ops : Array Oper) (Q : Exit → Act → World → Prop) (S : World → Prop) (late : List Nat) (fuel : Nat) (listed : Array Bool) (a : Act) (w : World) (rs : List Nat) : Prop :=
  ∀ i ∈ rs, wpOp P ops Q i (fun a' w' => (late.contains i = true ∨ S w') ∧ wpAnyE P md ops Q S late fuel (listed.setIfInBounds i true) a' w') a w
theorem AllReadyE.nil {fuel : Nat} {listed : Array Bool} {a : Act} {w : World} : AllReadyE P md ops Q S late fuel listed a w [] := fun _ h => by cases h
theorem AllReadyE.cons {fuel : Nat} {listed : Array Bool} {a : Act} {w : World} {i : Nat} {o : Oper} {rs : List Nat} (ho : ops[i]? = some o)
    (h : ∀ K' : Act → World → Prop, Shut (∀ a w, (late.contains i = true ∨ S w) → wpAnyE P md ops Q S late fuel (listed.setIfInBounds i true) a w → K' a w) → if Region.wanted o (yielded ops a.tmps) = true then Oper.wp P o a w K' Q else K' (a.put o.dst undef) w)
    (hs : AllReadyE P md ops Q S late fuel listed a w rs) : AllReadyE P md ops Q S late fuel listed a w (i :: rs) := fun j hj => by
  rcases List.mem_cons.1 hj with rfl | hj
  · exact wpOp_step ho fun K hK => h K (fun a w h1 h2 => hK a w ⟨h1, h2⟩)
  · exact hs j hj
theorem wpAnyE_ready {rs : List Nat} {fuel : Nat} {listed : Array Bool} {a : Act} {w : World} (hr : Region.ready md ops listed = rs) (hne : rs ≠ [])
    (h : AllReadyE P md ops Q S late fuel listed a w rs) : wpAnyE P md ops Q S late (fuel + 1) listed a w :=
  ⟨fun h0 => absurd (hr ▸ h0) hne, hr ▸ h⟩
/-- Just one may come up. -/
theorem wpAnyE_one {i : Nat} {o : Oper} {fuel : Nat} {listed : Array Bool} {a : Act} {w : World} (hr : Region.ready md ops listed = [i]) (ho : ops[i]? = some o)
    (h : ∀ K' : Act → World → Prop, Shut (∀ a w, (late.contains i = true ∨ S w) → wpAnyE P md ops Q S late fuel (listed.setIfInBounds i true) a w → K' a w) → if Region.wanted o (yielded ops a.tmps) = true then Oper.wp P o a w K' Q else K' (a.put o.dst undef) w) :
    wpAnyE P md ops Q S late (fuel + 1) listed a w := wpAnyE_ready hr (by simp) (AllReadyE.cons ho h .nil)
theorem wpAnyE_done {listed : Array Bool} {a : Act} {w : World} (hr : Region.ready md ops listed = []) (h : Q .normal a w) :
    ∀ fuel, wpAnyE P md ops Q S late fuel listed a w
  | 0 => ⟨hr, h⟩
  | _ + 1 => ⟨fun _ => h, by rw [hr]; simp⟩
theorem wp_region_E {id : Nat} {a : Act} {w : World} (hm : P.follows .mixedOrders = true)
    (h : wpAnyE P .any ops Q S late ops.size (Array.replicate ops.size false) a w.drew) : (Code.region id ops true).wp P Q a w :=
  wp_region_any hm (wpAny_of_E _ _ _ _ h)
end
end Go.Proofs.YthkobjbemmllfaaGreatDoor
namespace Go.Proofs.YthkobjbemmllfaaGreatDoor
open Go.RowKit
attribute [local go_sem ↓] Go.wp_at_zero Go.wp_at_succ

theorem info48 : (Tryz.prog.info? 48).map (·.size) = some 2 := by kernel_rfl
theorem ptr_other {w : World} {a b : Nat} {ca cb : Array Value} {ta tb : TypeId} (hne : a ≠ b) (ha : w.heap[a]? = some (.cells ca ta (0, 0))) (hb : w.heap[b]? = some (.cells cb tb (0, 0))) :
    (binOp .eql 44 (.pointer (some ⟨a, 0, none⟩)) (.pointer (some ⟨b, 0, none⟩))).run Tryz.prog w = .ok (.bool false) w := by
  obtain ⟨j, hj, hs⟩ := Option.map_eq_some_iff.1 info48
  exact run_eql_ptr_other w Tryz.underlying44 hj (by rw [hs]; decide) (fun e => hne (congrArg Addr.block e)) ha hb

set_option maxRecDepth 100000 in
set_option maxHeartbeats 4000000 in
theorem intMul_any (base gs gx gy N : Nat) (bz : Bool) (zA xA yA : Option Addr) (zn zc xn xc yn yc : Nat) (w : World) (hop : Opnds w gs gx gy bz false false (.slice zA zn zc) (.slice xA xn xc) (.slice yA yn yc))
    (a1 : ∀ n, Calls Tryz.prog 65 #[.slice zA zn zc, .pointer none, .slice xA xn xc, .slice yA yn yc] (w.drewN n) (SetPost base (Value.slice zA zn zc).ownBlock N (w.drewN n))) (hxy : gx ≠ gy) (hsx : gs ≠ gx) (hsy : gs ≠ gy)
    (hkx : ∀ n w2, (w.drewN n).grownBy w2 (Value.slice zA zn zc).ownBlock → w2.heap[gx]? = w.heap[gx]?) (hky : ∀ n w2, (w.drewN n).grownBy w2 (Value.slice zA zn zc).ownBlock → w2.heap[gy]? = w.heap[gy]?) :
    Calls Tryz.prog 38 #[.pointer (some ⟨gs, 0, none⟩), .pointer none, .pointer (some ⟨gx, 0, none⟩), .pointer (some ⟨gy, 0, none⟩)] w (fun e w' => e = .returned (.tuple #[]) ∧ OpPost base gs (.slice zA zn zc) N false w (.returned (.pointer (some ⟨gs, 0, none⟩))) w') := by
  obtain ⟨hg, hgx, hgy, hvb⟩ := hop
  have ke := ptr_other hxy hgx hgy
  have c0 : w.cell? ⟨gs, 0, none⟩ = some (.bool bz) := by unfold World.cell?; rw [hg]; rfl
  have c1 : w.cell? ⟨gs, 1, none⟩ = some (.slice zA zn zc) := by unfold World.cell?; rw [hg]; rfl
  have x1 : w.cell? ⟨gx, 1, none⟩ = some (.slice xA xn xc) := by unfold World.cell?; rw [hgx]; rfl
  have c3 : w.cell? ⟨gy, 1, none⟩ = some (.slice yA yn yc) := by unfold World.cell?; rw [hgy]; rfl
  have hgl : gs < w.heap.size := World.block_lt_of_cell? w _ c0
  have HG := Lib.hid hg; have HVB := Lib.hid hvb
  have HC2 := Lib.hid (show ∀ n2 w2, (w.drewN n2).grownBy w2 (Value.slice zA zn zc).ownBlock → (∃ z, w2.heap[gs]? = some (.cells #[.bool z, .slice zA zn zc] 48 (0, 0))) ∧ w2.cell? ⟨gx, 0, none⟩ = some (.bool false) ∧ w2.cell? ⟨gy, 0, none⟩ = some (.bool false) from
    fun n2 w2 hgr => ⟨⟨_, (hgr.block gs hgl (fun e => hvb e.symm)).trans hg⟩, by unfold World.cell?; rw [hkx n2 w2 hgr, hgx]; rfl, by unfold World.cell?; rw [hky n2 w2 hgr, hgy]; rfl⟩)
  clear hg hvb hgx hgy hgl hkx hky
  go_enter Tryz.func38, Tryz.ntmps38
  go_wp2_with fail
  go_region_with (go_at_call 65; refine (a1 _).mono ?_; rintro e w2 ⟨v', rfl, hN2, hgr, hat⟩; obtain ⟨A2, n2, d2, rfl, hn2⟩ := hN2.form; obtain ⟨⟨z, hz⟩, qx, qy⟩ := HC2.out _ _ hgr; obtain ⟨q1, q2⟩ := cells_57 hz)
  all_goals
    obtain ⟨r0, r0f, r1⟩ := cells_set hz (.slice A2 n2 d2)
    have rx : (w2.setCell ⟨gs, 1, none⟩ (.slice A2 n2 d2)).cell? ⟨gx, 0, none⟩ = some (.bool false) := by rw [World.cell?_setCell_other (h := fun e => hsx (congrArg Addr.block e))]; exact qx
    have ry : (w2.setCell ⟨gs, 1, none⟩ (.slice A2 n2 d2)).cell? ⟨gy, 0, none⟩ = some (.bool false) := by rw [World.cell?_setCell_other (h := fun e => hsy (congrArg Addr.block e))]; exact qy
    have HN2 := Lib.hid hN2; have HGR := Lib.hid hgr; have HAT := Lib.hid hat
    clear a1 hN2 hgr hat hz q1 q2 qx qy c0 c1 x1 c3 ke
    generalize hw3 : w2.setCell ⟨gs, 1, none⟩ (.slice A2 n2 d2) = w3 at *
    have HW3 := Lib.hid hw3
    clear hw3
    cases hq : decide ((0 : Int) < (n2 : Int)) with
    | true =>
      have hn3 := of_decide_eq_true hq
      have hn4 : 0 < n2 := by omega
      clear hn2
      go_wp2_with fail
      refine wp_region_E (S := fun W => W = w3.drew) (late := [20]) (by kernel_rfl) ?_
      refine wpAnyE_take (i := 0) (v := .pointer (some ⟨gs, 0, none⟩)) rfl (by kernel_rfl) (by kernel_rfl) (by kernel_rfl) (by kernel_rfl) (by kernel_rfl) (fun _ _ _ h => h) (Or.inl ⟨by kernel_rfl, ?_⟩) rfl ?_
      · intro W hSw; subst hSw; go_simp
      try simp only [Act.put]
      refine wpAnyE_take (i := 1) (v := .pointer (some ⟨gs, 0, none⟩)) rfl (by kernel_rfl) (by kernel_rfl) (by kernel_rfl) (by kernel_rfl) (by kernel_rfl) (fun _ _ _ h => h) (Or.inl ⟨by kernel_rfl, ?_⟩) rfl ?_
      · intro W hSw; subst hSw; go_simp
      try simp only [Act.put]
      refine wpAnyE_take (i := 2) (v := .pointer (some ⟨gs, 0, none⟩)) rfl (by kernel_rfl) (by kernel_rfl) (by kernel_rfl) (by kernel_rfl) (by kernel_rfl) (fun _ _ _ h => h) (Or.inl ⟨by kernel_rfl, ?_⟩) rfl ?_
      · intro W hSw; subst hSw; go_simp
      try simp only [Act.put]
      refine wpAnyE_take (i := 3) (v := .pointer (some ⟨gs, 1, none⟩)) rfl (by kernel_rfl) (by kernel_rfl) (by kernel_rfl) (by kernel_rfl) (by kernel_rfl) (fun _ _ _ h => h) (Or.inl ⟨by kernel_rfl, ?_⟩) rfl ?_
      · intro W hSw; subst hSw; go_simp
      try simp only [Act.put]
      refine wpAnyE_take (i := 4) (v := .slice A2 n2 d2) rfl (by kernel_rfl) (by kernel_rfl) (by kernel_rfl) (by kernel_rfl) (by kernel_rfl) (fun _ _ _ h => h) (Or.inl ⟨by kernel_rfl, ?_⟩) rfl ?_
      · intro W hSw; subst hSw; go_simp
      try simp only [Act.put]
      refine wpAnyE_take (i := 5) (v := .int .i64 n2) rfl (by kernel_rfl) (by kernel_rfl) (by kernel_rfl) (by kernel_rfl) (by kernel_rfl) (fun _ _ _ h => h) (Or.inl ⟨by kernel_rfl, ?_⟩) rfl ?_
      · intro W hSw; subst hSw; go_simp
      try simp only [Act.put]
      refine wpAnyE_take (i := 6) (v := .bool true) rfl (by kernel_rfl) (by kernel_rfl) (by kernel_rfl) (by kernel_rfl) (by kernel_rfl) (fun _ _ _ h => h) (Or.inl ⟨by kernel_rfl, ?_⟩) rfl ?_
      · intro W hSw; subst hSw; go_simp
      try simp only [Act.put]
      refine wpAnyE_take (i := 7) (v := .bool true) rfl (by kernel_rfl) (by kernel_rfl) (by kernel_rfl) (by kernel_rfl) (by kernel_rfl) (fun _ _ _ h => h) (Or.inl ⟨by kernel_rfl, ?_⟩) rfl ?_
      · intro W hSw; subst hSw; go_simp
      try simp only [Act.put]
      refine wpAnyE_take (i := 8) (v := .pointer (some ⟨gx, 0, none⟩)) rfl (by kernel_rfl) (by kernel_rfl) (by kernel_rfl) (by kernel_rfl) (by kernel_rfl) (fun _ _ _ h => h) (Or.inl ⟨by kernel_rfl, ?_⟩) rfl ?_
      · intro W hSw; subst hSw; go_simp
      try simp only [Act.put]
      refine wpAnyE_take (i := 9) (v := .pointer (some ⟨gx, 0, none⟩)) rfl (by kernel_rfl) (by kernel_rfl) (by kernel_rfl) (by kernel_rfl) (by kernel_rfl) (fun _ _ _ h => h) (Or.inl ⟨by kernel_rfl, ?_⟩) rfl ?_
      · intro W hSw; subst hSw; go_simp
      try simp only [Act.put]
      refine wpAnyE_take (i := 10) (v := .pointer (some ⟨gx, 0, none⟩)) rfl (by kernel_rfl) (by kernel_rfl) (by kernel_rfl) (by kernel_rfl) (by kernel_rfl) (fun _ _ _ h => h) (Or.inl ⟨by kernel_rfl, ?_⟩) rfl ?_
      · intro W hSw; subst hSw; go_simp
      try simp only [Act.put]
      refine wpAnyE_take (i := 11) (v := .bool false) rfl (by kernel_rfl) (by kernel_rfl) (by kernel_rfl) (by kernel_rfl) (by kernel_rfl) (fun _ _ _ h => h) (Or.inl ⟨by kernel_rfl, ?_⟩) rfl ?_
      · intro W hSw; subst hSw; go_simp
      try simp only [Act.put]
      refine wpAnyE_take (i := 12) (v := .pointer (some ⟨gy, 0, none⟩)) rfl (by kernel_rfl) (by kernel_rfl) (by kernel_rfl) (by kernel_rfl) (by kernel_rfl) (fun _ _ _ h => h) (Or.inl ⟨by kernel_rfl, ?_⟩) rfl ?_
      · intro W hSw; subst hSw; go_simp
      try simp only [Act.put]
      refine wpAnyE_take (i := 13) (v := .pointer (some ⟨gy, 0, none⟩)) rfl (by kernel_rfl) (by kernel_rfl) (by kernel_rfl) (by kernel_rfl) (by kernel_rfl) (fun _ _ _ h => h) (Or.inl ⟨by kernel_rfl, ?_⟩) rfl ?_
      · intro W hSw; subst hSw; go_simp
      try simp only [Act.put]
      refine wpAnyE_take (i := 14) (v := .pointer (some ⟨gy, 0, none⟩)) rfl (by kernel_rfl) (by kernel_rfl) (by kernel_rfl) (by kernel_rfl) (by kernel_rfl) (fun _ _ _ h => h) (Or.inl ⟨by kernel_rfl, ?_⟩) rfl ?_
      · intro W hSw; subst hSw; go_simp
      try simp only [Act.put]
      refine wpAnyE_take (i := 15) (v := .bool false) rfl (by kernel_rfl) (by kernel_rfl) (by kernel_rfl) (by kernel_rfl) (by kernel_rfl) (fun _ _ _ h => h) (Or.inl ⟨by kernel_rfl, ?_⟩) rfl ?_
      · intro W hSw; subst hSw; go_simp
      try simp only [Act.put]
      refine wpAnyE_take (i := 16) (v := .bool false) rfl (by kernel_rfl) (by kernel_rfl) (by kernel_rfl) (by kernel_rfl) (by kernel_rfl) (fun _ _ _ h => h) (Or.inl ⟨by kernel_rfl, ?_⟩) rfl ?_
      · intro W hSw; subst hSw; go_simp
      try simp only [Act.put]
      refine wpAnyE_take (i := 17) (v := .bool false) rfl (by kernel_rfl) (by kernel_rfl) (by kernel_rfl) (by kernel_rfl) (by kernel_rfl) (fun _ _ _ h => h) (Or.inl ⟨by kernel_rfl, ?_⟩) rfl ?_
      · intro W hSw; subst hSw; go_simp
      try simp only [Act.put]
      refine wpAnyE_one (i := 18) (by kernel_rfl) rfl (fun K hK => ?_)
      go_simp
      refine hK.out _ _ (.inr rfl) ?_
      clear hK K
      try simp only [Act.put]
      refine wpAnyE_one (i := 19) (by kernel_rfl) rfl (fun K hK => ?_)
      go_simp
      refine hK.out _ _ (.inr rfl) ?_
      clear hK K
      try simp only [Act.put]
      refine wpAnyE_one (i := 20) (by kernel_rfl) rfl (fun K hK => ?_)
      go_simp
      refine hK.out _ _ (.inl rfl) ?_
      clear hK K
      try simp only [Act.put]
      refine wpAnyE_done (by kernel_rfl) ?_ _
      go_wp2
      go_end0
      refine ⟨rfl, ?_⟩
      rw [← HW3.out]
      exact OpPost.fin HG.out HVB.out HN2.out HGR.out ⟨_, rfl⟩ HAT.out rfl
    | false =>
      have hn3 : ¬ (0 : Int) < (n2 : Int) := of_decide_eq_false hq
      have hn4 : ¬ 0 < n2 := by omega
      clear hn2
      go_wp2_with fail
      refine wp_region_E (S := fun W => W = w3.drew) (late := [20]) (by kernel_rfl) ?_
      refine wpAnyE_take (i := 0) (v := .pointer (some ⟨gs, 0, none⟩)) rfl (by kernel_rfl) (by kernel_rfl) (by kernel_rfl) (by kernel_rfl) (by kernel_rfl) (fun _ _ _ h => h) (Or.inl ⟨by kernel_rfl, ?_⟩) rfl ?_
      · intro W hSw; subst hSw; go_simp
      try simp only [Act.put]
      refine wpAnyE_take (i := 1) (v := .pointer (some ⟨gs, 0, none⟩)) rfl (by kernel_rfl) (by kernel_rfl) (by kernel_rfl) (by kernel_rfl) (by kernel_rfl) (fun _ _ _ h => h) (Or.inl ⟨by kernel_rfl, ?_⟩) rfl ?_
      · intro W hSw; subst hSw; go_simp
      try simp only [Act.put]
      refine wpAnyE_take (i := 2) (v := .pointer (some ⟨gs, 0, none⟩)) rfl (by kernel_rfl) (by kernel_rfl) (by kernel_rfl) (by kernel_rfl) (by kernel_rfl) (fun _ _ _ h => h) (Or.inl ⟨by kernel_rfl, ?_⟩) rfl ?_
      · intro W hSw; subst hSw; go_simp
      try simp only [Act.put]
      refine wpAnyE_take (i := 3) (v := .pointer (some ⟨gs, 1, none⟩)) rfl (by kernel_rfl) (by kernel_rfl) (by kernel_rfl) (by kernel_rfl) (by kernel_rfl) (fun _ _ _ h => h) (Or.inl ⟨by kernel_rfl, ?_⟩) rfl ?_
      · intro W hSw; subst hSw; go_simp
      try simp only [Act.put]
      refine wpAnyE_take (i := 4) (v := .slice A2 n2 d2) rfl (by kernel_rfl) (by kernel_rfl) (by kernel_rfl) (by kernel_rfl) (by kernel_rfl) (fun _ _ _ h => h) (Or.inl ⟨by kernel_rfl, ?_⟩) rfl ?_
      · intro W hSw; subst hSw; go_simp
      try simp only [Act.put]
      refine wpAnyE_take (i := 5) (v := .int .i64 n2) rfl (by kernel_rfl) (by kernel_rfl) (by kernel_rfl) (by kernel_rfl) (by kernel_rfl) (fun _ _ _ h => h) (Or.inl ⟨by kernel_rfl, ?_⟩) rfl ?_
      · intro W hSw; subst hSw; go_simp
      try simp only [Act.put]
      refine wpAnyE_take (i := 6) (v := .bool false) rfl (by kernel_rfl) (by kernel_rfl) (by kernel_rfl) (by kernel_rfl) (by kernel_rfl) (fun _ _ _ h => h) (Or.inl ⟨by kernel_rfl, ?_⟩) rfl ?_
      · intro W hSw; subst hSw; go_simp
      try simp only [Act.put]
      refine wpAnyE_take (i := 7) (v := .bool false) rfl (by kernel_rfl) (by kernel_rfl) (by kernel_rfl) (by kernel_rfl) (by kernel_rfl) (fun _ _ _ h => h) (Or.inl ⟨by kernel_rfl, ?_⟩) rfl ?_
      · intro W hSw; subst hSw; go_simp
      try simp only [Act.put]
      refine wpAnyE_take (i := 8) (v := undef) rfl (by kernel_rfl) (by kernel_rfl) (by kernel_rfl) (by kernel_rfl) (by kernel_rfl) (fun _ _ _ h => h) (Or.inr ⟨by kernel_rfl, rfl⟩) rfl ?_
      try simp only [Act.put]
      refine wpAnyE_take (i := 9) (v := undef) rfl (by kernel_rfl) (by kernel_rfl) (by kernel_rfl) (by kernel_rfl) (by kernel_rfl) (fun _ _ _ h => h) (Or.inr ⟨by kernel_rfl, rfl⟩) rfl ?_
      try simp only [Act.put]
      refine wpAnyE_take (i := 10) (v := undef) rfl (by kernel_rfl) (by kernel_rfl) (by kernel_rfl) (by kernel_rfl) (by kernel_rfl) (fun _ _ _ h => h) (Or.inr ⟨by kernel_rfl, rfl⟩) rfl ?_
      try simp only [Act.put]
      refine wpAnyE_take (i := 11) (v := undef) rfl (by kernel_rfl) (by kernel_rfl) (by kernel_rfl) (by kernel_rfl) (by kernel_rfl) (fun _ _ _ h => h) (Or.inr ⟨by kernel_rfl, rfl⟩) rfl ?_
      try simp only [Act.put]
      refine wpAnyE_take (i := 12) (v := undef) rfl (by kernel_rfl) (by kernel_rfl) (by kernel_rfl) (by kernel_rfl) (by kernel_rfl) (fun _ _ _ h => h) (Or.inr ⟨by kernel_rfl, rfl⟩) rfl ?_
      try simp only [Act.put]
      refine wpAnyE_take (i := 13) (v := undef) rfl (by kernel_rfl) (by kernel_rfl) (by kernel_rfl) (by kernel_rfl) (by kernel_rfl) (fun _ _ _ h => h) (Or.inr ⟨by kernel_rfl, rfl⟩) rfl ?_
      try simp only [Act.put]
      refine wpAnyE_take (i := 14) (v := undef) rfl (by kernel_rfl) (by kernel_rfl) (by kernel_rfl) (by kernel_rfl) (by kernel_rfl) (fun _ _ _ h => h) (Or.inr ⟨by kernel_rfl, rfl⟩) rfl ?_
      try simp only [Act.put]
      refine wpAnyE_take (i := 15) (v := undef) rfl (by kernel_rfl) (by kernel_rfl) (by kernel_rfl) (by kernel_rfl) (by kernel_rfl) (fun _ _ _ h => h) (Or.inr ⟨by kernel_rfl, rfl⟩) rfl ?_
      try simp only [Act.put]
      refine wpAnyE_take (i := 16) (v := undef) rfl (by kernel_rfl) (by kernel_rfl) (by kernel_rfl) (by kernel_rfl) (by kernel_rfl) (fun _ _ _ h => h) (Or.inr ⟨by kernel_rfl, rfl⟩) rfl ?_
      try simp only [Act.put]
      refine wpAnyE_take (i := 17) (v := .bool false) rfl (by kernel_rfl) (by kernel_rfl) (by kernel_rfl) (by kernel_rfl) (by kernel_rfl) (fun _ _ _ h => h) (Or.inl ⟨by kernel_rfl, ?_⟩) rfl ?_
      · intro W hSw; subst hSw; go_simp
      try simp only [Act.put]
      refine wpAnyE_one (i := 18) (by kernel_rfl) rfl (fun K hK => ?_)
      go_simp
      refine hK.out _ _ (.inr rfl) ?_
      clear hK K
      try simp only [Act.put]
      refine wpAnyE_one (i := 19) (by kernel_rfl) rfl (fun K hK => ?_)
      go_simp
      refine hK.out _ _ (.inr rfl) ?_
      clear hK K
      try simp only [Act.put]
      refine wpAnyE_one (i := 20) (by kernel_rfl) rfl (fun K hK => ?_)
      go_simp
      refine hK.out _ _ (.inl rfl) ?_
      clear hK K
      try simp only [Act.put]
      refine wpAnyE_done (by kernel_rfl) ?_ _
      go_wp2
      go_end0
      refine ⟨rfl, ?_⟩
      rw [← HW3.out]
      exact OpPost.fin HG.out HVB.out HN2.out HGR.out ⟨_, rfl⟩ HAT.out rfl

set_option maxRecDepth 100000 in
/-- Int.Mul of two numbers made by NewInt, neither below nought, into a new one. -/
theorem intMulW (base gs gx gy X Y : Nat) (xv yv : Value) (w : World) (hz : w.heap[gs]? = some (.cells #[.bool false, .slice none 0 0] 48 (0, 0))) (hx : w.heap[gx]? = some (.cells #[.bool false, xv] 48 (0, 0))) (hy : w.heap[gy]? = some (.cells #[.bool false, yv] 48 (0, 0)))
    (hX : W1 w xv X) (hY : W1 w yv Y) (hb : base ≤ w.heap.size) (hxy : gx ≠ gy) (hsx : gs ≠ gx) (hsy : gs ≠ gy) :
    Calls Tryz.prog 18 #[.pointer (some ⟨gs, 0, none⟩), .pointer (some ⟨gx, 0, none⟩), .pointer (some ⟨gy, 0, none⟩)] w (OpPost base gs (.slice none 0 0) (X * Y) false w) := by
  obtain ⟨xA, xn, xc, rfl⟩ := hX.form
  obtain ⟨yA, yn, yc, rfl⟩ := hY.form
  have lt : ∀ g (o : Obj), w.heap[g]? = some o → g < w.heap.size := fun g o h => by
    rcases Nat.lt_or_ge g w.heap.size with h' | h'
    · exact h'
    · rw [Array.getElem?_eq_none h'] at h; cases h
  have a1 := intMul_any base gs gx gy (X * Y) false none xA yA 0 0 xn xc yn yc w ⟨hz, hx, hy, by simp [Value.ownBlock]⟩
    (fun n => mulW base X Y _ _ (w.drewN n) (hX.keep fun _ _ => rfl) (hY.keep fun _ _ => rfl) hb) hxy hsx hsy (fun n w2 h => h.block gx (lt gx _ hx) (by simp [Value.ownBlock])) (fun n w2 h => h.block gy (lt gy _ hy) (by simp [Value.ownBlock]))
  clear hX hY hz hx hy lt
  go_enter Tryz.func18, Tryz.ntmps18
  go_wp2_with fail
  refine a1.mono ?_
  clear a1
  rintro e w1 ⟨rfl, h1⟩
  have H1 := Lib.hid h1
  clear h1
  go_wp2
  go_ret
  exact H1.out
end Go.Proofs.YthkobjbemmllfaaGreatDoor
