/- Sentinel errors that a row lists: where they lie, and that no two are one. Whatever the program. -/
import Derived.LaidLaws
import Derived.ChangeArms
import Derived.MakeChecks
import Derived.Below
import Derived.LaidEql
import Derived.RowKit
namespace Go.Proofs.YthkobjbemmllfaaGreatDoor
open Go.RowKit

/-- The address that an error's variable holds. -/
def ptrAt (w : World) (g : Nat) : Addr := match w.cell? ⟨g, 0, none⟩ with
  | some (.iface _ (.pointer (some a))) => a
  | _ => ⟨0, 0, none⟩

/-- The variable g holds an error made by errors.New: a pointer of type tp into a block that may be compared. -/
def IsErr (w : World) (tp : TypeId) (g : Nat) : Prop :=
  w.cell? ⟨g, 0, none⟩ = some (.iface tp (.pointer (some (ptrAt w g)))) ∧ g < w.heap.size ∧ ∃ c t, w.heap[(ptrAt w g).block]? = some (.cells c t (0, 0))

/-- The datum of a sentinel. -/
def sen (text : List UInt8) : DataW Unit := .iface "*errors.errorString" (.ptr (.agg [.lit (.string text)]))

/-- Of a program: how errors are typed. -/
structure ErrTypes (P : Program) (ti tp : TypeId) : Prop where
  shape : ∃ (te ts : TypeId) (ms : Array (String × TypeId)) (f : Field), P.underlying ti = some (.interface ms) ∧ (∀ u, P.typeName? 3 u = some "*errors.errorString" → u = tp) ∧
    P.underlying tp = some (.pointer te) ∧ P.underlying te = some (.struct #[f]) ∧ f.type = ts ∧ f.offset = 0 ∧ P.underlying ts = some .string ∧ P.cellsOf te = 1 ∧ P.cellsOf ts = 1

theorem laid_errs {P : Program} {W : World} {ti tp : TypeId} (hT : ErrTypes P ti tp) :
    ∀ (L : List (String × DataW Unit)) (ps : List MemPlace), DataW.LaidVars P W L ps → ps.Nodup →
      (∀ b off, MemPlace.cell b off ∈ ps → (∃ c t, W.heap[b]? = some (.cells c t (0, 0))) ∧ ∀ u v, W.cell? ⟨b, off, none⟩ = some (.iface u v) → Value.okWide P W .any 0 u v) →
      (∀ x ∈ L, ∀ g text, P.globalNamed x.1 = some g → (P.globals[g]?).map (·.type) = some ti → x.2 = sen text → IsErr W tp g ∧ MemPlace.cell (ptrAt W g).block (ptrAt W g).off ∈ ps ∧ (ptrAt W g).spot = none) ∧
      L.Pairwise (fun x y => ∀ g h s t, P.globalNamed x.1 = some g → P.globalNamed y.1 = some h → (P.globals[g]?).map (·.type) = some ti → (P.globals[h]?).map (·.type) = some ti → x.2 = sen s → y.2 = sen t → ptrAt W g ≠ ptrAt W h)
  | [], ps, _, _, _ => ⟨fun x hx => absurd hx (by simp), List.Pairwise.nil⟩
  | (n, d) :: r, ps, h, hnd, hrows => by
    obtain ⟨g0, t0, cs0, f0, p0, q0, hg0, ht0, hv0, hd0, hrest, rfl⟩ := h
    have hq : q0.Nodup := (List.nodup_append.1 hnd).2.1
    have ih := laid_errs hT r q0 hrest hq (fun b off hm => hrows b off (List.mem_append_right _ hm))
    have head : ∀ g text, P.globalNamed n = some g → (P.globals[g]?).map (·.type) = some ti → d = sen text →
        IsErr W tp g ∧ MemPlace.cell (ptrAt W g).block (ptrAt W g).off ∈ MemPlace.row ⟨g0, 0, none⟩ cs0.size ++ p0 ∧ (ptrAt W g).spot = none := by
      intro g text hg ht hd
      obtain rfl := Option.some.inj (hg0.symm.trans hg)
      obtain rfl := Option.some.inj (ht0.symm.trans ht)
      obtain ⟨te, ts, ms, f, hi, hrow, hp, he, hft, hfo, hs, hc, hcs⟩ := hT.shape
      subst hd
      obtain ⟨l0⟩ := cs0
      have ok0 : ∀ u v, l0 = [.iface u v] → Value.okWide P W .any 0 u v := fun u v e => by
        subst e
        exact (hrows g0 0 (by simp [MemPlace.row])).2 u v (by simpa using World.var?_cell hg0 hv0 0)
      obtain ⟨a0, s0, rfl, hc0, hs0, hz0, rfl⟩ := errorString_of_trod hi hrow hp he hft hfo hs hc hcs hd0 ok0
      have hcell : W.cell? ⟨g0, 0, none⟩ = some (.iface tp (.pointer (some a0))) := by simpa using World.var?_cell hg0 hv0 0
      have hptr : ptrAt W g0 = a0 := by unfold ptrAt; rw [hcell]
      have hspot : a0.spot = none := World.cell?_spot hc0
      have hmem : MemPlace.cell a0.block a0.off ∈ MemPlace.row a0 1 := by simp [MemPlace.row]
      have hb := (hrows a0.block a0.off (List.mem_append_left _ (List.mem_append_right _ hmem))).1
      refine ⟨⟨by rw [hptr]; exact hcell, World.block_lt_of_cell? W _ hcell, by rw [hptr]; exact hb⟩, ?_, by rw [hptr]; exact hspot⟩
      rw [hptr]; exact List.mem_append_right _ hmem
    refine ⟨fun x hx g text hg ht hd => ?_, List.Pairwise.cons (fun y hy g h s t hg hh htg hth hs ht => ?_) ih.2⟩
    · rcases List.mem_cons.1 hx with rfl | hx
      · obtain ⟨a, b, c⟩ := head g text hg ht hd
        exact ⟨a, List.mem_append_left _ b, c⟩
      · obtain ⟨a, b, c⟩ := ih.1 x hx g text hg ht hd
        exact ⟨a, List.mem_append_right _ b, c⟩
    · obtain ⟨_, m1, _⟩ := head g s hg htg hs
      obtain ⟨_, m2, _⟩ := ih.1 y hy h t hh hth ht
      intro e
      rw [e] at m1
      exact (List.nodup_append.1 hnd).2.2 _ m1 _ m2 rfl

/-- Where the errors lie: B g is what the variable g (one of S) points to. -/
structure EnvN (tp : TypeId) (S : List Nat) (W : World) (B : Nat → Addr) : Prop where
  cell : ∀ g, g ∈ S → W.cell? ⟨g, 0, none⟩ = some (.iface tp (.pointer (some (B g))))
  low : ∀ g, g ∈ S → g < W.heap.size
  blk : ∀ g, g ∈ S → (B g).block < W.heap.size ∧ ∃ c t, W.heap[(B g).block]? = some (.cells c t (0, 0))
  ne : ∀ g h, g ∈ S → h ∈ S → g ≠ h → B g ≠ B h

theorem EnvN.below {tp : TypeId} {S : List Nat} {W W' : World} {B : Nat → Addr} (h : EnvN tp S W B) (hb : Below W.heap.size W W') : EnvN tp S W' B where
  cell g hg := (hb.cell (h.low g hg)).trans (h.cell g hg)
  low g hg := Nat.lt_of_lt_of_le (h.low g hg) hb.size
  blk g hg := by
    obtain ⟨h1, c, t, h2⟩ := h.blk g hg
    exact ⟨Nat.lt_of_lt_of_le h1 hb.size, c, t, (hb.block _ h1).trans h2⟩
  ne := h.ne
theorem EnvN.sub {tp : TypeId} {S T : List Nat} {W : World} {B : Nat → Addr} (h : EnvN tp S W B) (hm : (T.all fun g => S.contains g) = true) : EnvN tp T W B := by
  have hs : ∀ g, g ∈ T → g ∈ S := fun g hg => by simpa using List.all_eq_true.1 hm g hg
  exact ⟨fun g hg => h.cell g (hs g hg), fun g hg => h.low g (hs g hg), fun g hg => h.blk g (hs g hg), fun g k hg hk => h.ne g k (hs g hg) (hs k hk)⟩

def isSen : DataW Unit → Bool
  | .iface nm (.ptr (.agg [.lit (.string _)])) => nm == "*errors.errorString"
  | _ => false
theorem isSen_sen {d : DataW Unit} (h : isSen d = true) : ∃ text, d = sen text := by
  unfold isSen at h
  split at h
  · exact ⟨_, by rw [eq_of_beq h]; rfl⟩
  · cases h

theorem env_of_laid {P : Program} {ti tp : TypeId} (hT : ErrTypes P ti tp) {L : List (String × DataW Unit)} {W : World} (hL : laidMet P L W) (S : List Nat)
    (hchk : (S.all fun g => L.any fun x => P.globalNamed x.1 == some g && (P.globals[g]?).map (·.type) == some ti && isSen x.2) = true) : EnvN tp S W (ptrAt W) := by
  obtain ⟨ps, hv, hnd, hrows⟩ := hL
  obtain ⟨h1, h2⟩ := laid_errs hT L ps hv hnd hrows
  have look : ∀ g, g ∈ S → ∃ x ∈ L, P.globalNamed x.1 = some g ∧ (P.globals[g]?).map (·.type) = some ti ∧ ∃ text, x.2 = sen text := by
    intro g hg
    obtain ⟨x, hx, hc⟩ := List.any_eq_true.1 (List.all_eq_true.1 hchk g hg)
    simp only [Bool.and_eq_true, beq_iff_eq] at hc
    exact ⟨x, hx, hc.1.1, hc.1.2, isSen_sen hc.2⟩
  have err : ∀ g, g ∈ S → IsErr W tp g := by
    intro g hg
    obtain ⟨x, hx, hgn, hty, text, hs⟩ := look g hg
    exact (h1 x hx g text hgn hty hs).1
  refine ⟨fun g hg => (err g hg).1, fun g hg => (err g hg).2.1, fun g hg => ?_, fun g h hg hh hne => ?_⟩
  · obtain ⟨_, _, c, t, hb⟩ := err g hg
    refine ⟨?_, c, t, hb⟩
    rcases Nat.lt_or_ge (ptrAt W g).block W.heap.size with h | h
    · exact h
    · rw [Array.getElem?_eq_none h] at hb; cases hb
  · obtain ⟨x, hx, hgn, hty, text, hs⟩ := look g hg
    obtain ⟨y, hy, hgn2, hty2, text2, hs2⟩ := look h hh
    obtain ⟨i, hi, rfl⟩ := List.getElem_of_mem hx
    obtain ⟨j, hj, rfl⟩ := List.getElem_of_mem hy
    rcases Nat.lt_trichotomy i j with hlt | heq | hgt
    · exact List.pairwise_iff_getElem.1 h2 i j hi hj hlt g h text text2 hgn hgn2 hty hty2 hs hs2
    · subst heq
      exact absurd (Option.some.inj (hgn.symm.trans hgn2)) hne
    · exact fun e => List.pairwise_iff_getElem.1 h2 j i hj hi hgt h g text2 text hgn2 hgn hty2 hty hs2 hs e.symm
end Go.Proofs.YthkobjbemmllfaaGreatDoor
