/- A schedule that came in, with its size; a list of numbers that came in. -/
import Derived.Test.YtikkocdbaekjmaaGreatDoorOwnS
import Derived.Test.YtikkocdbaekjmaaGreatDoorFeesW
namespace Go.Proofs.YtikkocdbaekjmaaGreatDoor
open Go.RowKit Go.ChangeShapes Go.WideShapes Go.ChangeAt Go.Deep
theorem bytes35 : Tryz.prog.bytesOf 35 = 24 := by kernel_rfl
theorem bytes2 : Tryz.prog.bytesOf 2 = 8 := by kernel_rfl
theorem fees_fields : ∃ f0 f1 f2 : Field, Tryz.prog.underlying 25 = some (.struct #[f0, f1, f2]) ∧ f0.type = 23 := ⟨_, _, _, Tryz.underlying25, rfl⟩
section
variable {H : Type} {enc : TypeId × Value → H} {w : World} {held : Bool}
/-- Each part of an argument weighs no more than the form's reach. -/
theorem weights_of {ts : List TypeId} {ds : List (DataW H)} {P : Program} {j : Nat} {t : TypeId} {d : DataW H} (h : (DataW.weightsEach P ts ds).all (· ≤ reachBytes) = true) (ht : ts[j]? = some t) (hd : ds[j]? = some d) : ∀ x ∈ d.weights P t, x ≤ reachBytes := fun x hx => by
  simpa using List.all_eq_true.1 h _ (DataW.weights_mem_each ht hd x hx)
set_option maxRecDepth 100000 in
theorem tiers_sized {A : Option Addr} {n c : Nat} {fuel : Nat} {x : DataW H × List MemPlace} (h : DataW.trod enc Tryz.prog w 0 (fun _ => true) held fuel 23 [.slice A n c] = some x)
    (hs : ∀ L R, x.1 = .slice L R → (L.length + R.length) * Tryz.prog.bytesOf 35 ≤ reachBytes) : n * 24 ≤ 140737488351232 := by
  rcases open_slice Tryz.underlying23 h with ⟨hcs, hx⟩ | ⟨a, len, cap, m, f, D, Pl, hcs, _, hl, hm, hmm, hx, hel⟩
  · simp at hcs
    obtain ⟨rfl, rfl, rfl⟩ := hcs
    decide
  · simp at hcs
    obtain ⟨rfl, rfl, rfl⟩ := hcs
    have hsz := hs _ _ (congrArg (·.1) hx)
    have h47 : reachBytes = 140737488351232 := rfl
    rw [bytes35] at hsz
    simp at hsz
    omega
set_option maxRecDepth 100000 in
theorem open_fees_sized {v : Value} {d : DataW H} {p : List MemPlace} {b0 : Nat} (hv : Value.okWide Tryz.prog w .any b0 25 v) (h : DataW.Trod enc Tryz.prog w 0 (fun _ => true) held 25 v d p)
    (hw : ∀ x ∈ d.weights Tryz.prog 25, x ≤ reachBytes) : ∃ A n c t l m, v = feeV A n c l m ∧ Tiers w A n t ∧ n * 24 ≤ 140737488351232 := by
  obtain ⟨A, n, c, t, l, m, rfl, hT⟩ := open_fees hv h
  refine ⟨A, n, c, t, l, m, rfl, hT, ?_⟩
  obtain ⟨fuel, hf⟩ := h
  have hf2 : DataW.trod enc Tryz.prog w 0 (fun _ => true) held fuel 25 [.slice A n c, .int .i64 l, .int .i64 m] = some (d, p) := hf
  obtain ⟨xs, k, _, hx, hl, hlen, hg⟩ := DataW.trod_struct Tryz.underlying25 hf2
  obtain ⟨y0, y1, y2, rfl⟩ := list3 (hlen.trans rfl)
  have t0 : DataW.trod enc Tryz.prog w 0 (fun _ => true) held k 23 (([Value.slice A n c, .int .i64 l, .int .i64 m].drop 0).take (Tryz.prog.cellsOf 23)) = some y0 := hg 0 _ rfl
  rw [cells23] at t0
  simp only [List.drop, List.take] at t0
  refine tiers_sized t0 fun L R e => hw _ ?_
  have hd : d = .agg [y0.1, y1.1, y2.1] := congrArg (·.1) hx
  rw [hd]
  obtain ⟨f0, f1, f2, hu, hf0⟩ := fees_fields
  simp only [DataW.weights, hu]
  simp only [List.map_cons, DataW.weightsEach, hf0, e, DataW.weights, Tryz.underlying23, List.mem_append, List.mem_cons]
  exact .inl (.inl trivial)
/-- What a list of int64 is. -/
structure I64s (W : World) (v : Value) (A : Option Addr) (n c : Nat) (f : Nat → Int) : Prop where
  eq : v = .slice A n c
  ints : Ints W A n f
  small : n ≤ 17592186044416
set_option maxRecDepth 100000 in
theorem open_i64s {v : Value} {d : DataW H} {p : List MemPlace} {b0 : Nat} (hv : Value.okWide Tryz.prog w .any b0 43 v) (h : DataW.Trod enc Tryz.prog w 0 (fun _ => true) held 43 v d p)
    (hs : ∀ L R, d = .slice L R → (L.length + R.length) * Tryz.prog.bytesOf 2 ≤ reachBytes) : ∃ A n c f, I64s w v A n c f := by
  obtain ⟨A, n, c, rfl⟩ := okWide_slice Tryz.underlying43 hv
  obtain ⟨fuel, hf⟩ := h
  rcases open_ints Tryz.underlying43 Tryz.underlying2 (by kernel_rfl) hf with ⟨hcs, hx⟩ | ⟨x, l, cap, zs, hcs, _, hl, hm, hz, hx, hcell, hwz⟩
  · simp [Value.cells] at hcs
    obtain ⟨rfl, rfl, rfl⟩ := hcs
    exact ⟨none, 0, 0, fun _ => 0, rfl, .inl rfl, by decide⟩
  · simp [Value.cells] at hcs
    obtain ⟨rfl, rfl, rfl⟩ := hcs
    simp only [Prod.mk.injEq] at hx
    simp only [if_true] at hz
    have hsz := hs _ _ hx.1
    have h47 := reachBytes_lt
    rw [bytes2] at hsz
    simp [lits] at hsz
    refine ⟨some x, n, c, fun i => zs.getD i 0, rfl, ?_, by omega⟩
    rcases Nat.eq_zero_or_pos n with h0 | hn
    · exact .inl h0
    · obtain ⟨g, o, spot⟩ := x
      have hc := hcell 0 (by omega)
      have hspot : spot = none := by simpa [Addr.add] using World.cell?_spot hc
      subst hspot
      refine .inr ⟨g, o, rfl, World.block_lt_of_cell? w _ (by simpa [Addr.add] using hc), fun i hi => ?_⟩
      have := hcell i (by omega)
      rwa [at_of_add rfl] at this
end
end Go.Proofs.YtikkocdbaekjmaaGreatDoor
