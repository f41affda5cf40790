/- A slice of Ops that came in, opened: its numbers are what their types hold, its texts are short. -/
import Derived.Test.YtnodjcapclkmhaaDoorOpenOps
import Derived.Test.YtnodjcapclkmhaaDoorAgain
namespace Go.Proofs.YtnodjcapclkmhaaDoor
open Go.ChangeShapes Go.WideShapes Go.ChangeAt Go.RowKit Go.Deep

section
variable {H : Type} {enc : TypeId × Value → H} {w : World} {held : Bool}
theorem open_op2 {fuel : Nat} {cs : List Value} {x : DataW H × List MemPlace} (h : DataW.trod enc Tryd.prog w 0 (fun _ => true) held fuel 30 cs = some x) :
    ∃ o : OpV, cs = [.int .i64 o.k, .bool o.sec, .int .u64 o.u, .int .i64 o.i, .int .i64 o.n, .int .i64 o.m, .string o.s, .slice o.A o.ln o.lc] ∧ o.Ok ∧ Tv w o.A o.ln o.lc o.ss ∧ o.ln ≤ Rows.uptoBulk x.1 ∧ (Rows.uptoBulk x.1 ≤ 1048576 → (putL o).length ≤ 20 * Rows.uptoBulk x.1) ∧ o.In ∧ o.s.size ≤ Rows.uptoBulk x.1 ∧ ∀ j, j < o.ln → (o.ss j).size ≤ Rows.uptoBulk x.1 := by
  obtain ⟨xs, n, _, rfl, hl, hlen, hf⟩ := DataW.trod_struct Tryd.underlying30 h
  rw [cells30] at hl
  obtain ⟨c0, c1, c2, c3, c4, c5, c6, c7, rfl⟩ := list8 hl
  obtain ⟨y0, y1, y2, y3, y4, y5, y6, y7, rfl⟩ := list8 (hlen.trans rfl)
  have t0 : DataW.trod enc Tryd.prog w 0 (fun _ => true) held n 3 (([c0, c1, c2, c3, c4, c5, c6, c7].drop 0).take (Tryd.prog.cellsOf 3)) = some y0 := hf 0 _ rfl
  rw [cells3] at t0
  have t1 : DataW.trod enc Tryd.prog w 0 (fun _ => true) held n 4 (([c0, c1, c2, c3, c4, c5, c6, c7].drop 1).take (Tryd.prog.cellsOf 4)) = some y1 := hf 1 _ rfl
  rw [cells4] at t1
  have t2 : DataW.trod enc Tryd.prog w 0 (fun _ => true) held n 27 (([c0, c1, c2, c3, c4, c5, c6, c7].drop 2).take (Tryd.prog.cellsOf 27)) = some y2 := hf 2 _ rfl
  rw [cells27] at t2
  have t3 : DataW.trod enc Tryd.prog w 0 (fun _ => true) held n 2 (([c0, c1, c2, c3, c4, c5, c6, c7].drop 3).take (Tryd.prog.cellsOf 2)) = some y3 := hf 3 _ rfl
  rw [cells2] at t3
  have t4 : DataW.trod enc Tryd.prog w 0 (fun _ => true) held n 3 (([c0, c1, c2, c3, c4, c5, c6, c7].drop 4).take (Tryd.prog.cellsOf 3)) = some y4 := hf 4 _ rfl
  rw [cells3] at t4
  have t5 : DataW.trod enc Tryd.prog w 0 (fun _ => true) held n 3 (([c0, c1, c2, c3, c4, c5, c6, c7].drop 5).take (Tryd.prog.cellsOf 3)) = some y5 := hf 5 _ rfl
  rw [cells3] at t5
  have t6 : DataW.trod enc Tryd.prog w 0 (fun _ => true) held n 9 (([c0, c1, c2, c3, c4, c5, c6, c7].drop 6).take (Tryd.prog.cellsOf 9)) = some y6 := hf 6 _ rfl
  rw [cells9] at t6
  have t7 : DataW.trod enc Tryd.prog w 0 (fun _ => true) held n 28 (([c0, c1, c2, c3, c4, c5, c6, c7].drop 7).take (Tryd.prog.cellsOf 28)) = some y7 := hf 7 _ rfl
  rw [cells28] at t7
  clear hf hlen hl h
  obtain ⟨k, e0, rfl, w0⟩ := DataW.trod_int Tryd.underlying3 t0
  obtain ⟨b, e1, rfl⟩ := DataW.trod_bool Tryd.underlying4 t1
  obtain ⟨u, e2, rfl, w2⟩ := DataW.trod_int Tryd.underlying27 t2
  obtain ⟨i, e3, rfl, w3⟩ := DataW.trod_int Tryd.underlying2 t3
  obtain ⟨m, e4, rfl, w4⟩ := DataW.trod_int Tryd.underlying3 t4
  obtain ⟨q, e5, rfl, w5⟩ := DataW.trod_int Tryd.underlying3 t5
  obtain ⟨s, e6, rfl, w6⟩ := DataW.trod_string Tryd.underlying9 t6
  obtain ⟨A, ln, lc, ss, D, e7, hTv, hD, hss⟩ := open_txs t7
  simp only [List.drop, List.take, List.cons.injEq, and_true] at e0 e1 e2 e3 e4 e5 e6 e7
  subst e0 e1 e2 e3 e4 e5 e6 e7
  obtain ⟨u0, u1⟩ := bounds_u64 w2
  obtain ⟨i0, i1⟩ := bounds_i64 w3
  obtain ⟨un, rfl⟩ := Int.eq_ofNat_of_zero_le u0
  have hL : ln ≤ Rows.uptoBulk y7.1 ∧ bulks.bsum D ln ≤ Rows.uptoBulk y7.1 := by
    rcases hD with rfl | ⟨r, hr⟩
    · exact ⟨Nat.zero_le _, Nat.zero_le _⟩
    · rw [hr]
      have h1 := bulks.slice_range D ln r
      have h2 := bulks.bsum_ge D ln
      omega
  have hbulk : Rows.uptoBulk (DataW.agg (List.map (fun x => x.1) [(DataW.lit (Lit.int IntKind.i64 k), []), (DataW.lit (Lit.bool b), []), (DataW.lit (Lit.int IntKind.u64 un), []), (DataW.lit (Lit.int IntKind.i64 i), []), (DataW.lit (Lit.int IntKind.i64 m), []), (DataW.lit (Lit.int IntKind.i64 q), []), (DataW.lit (Lit.string s.data.toList), []), y7]) : DataW H) = s.size + Rows.uptoBulk y7.1 + 8 := by
    have h3 : s.data.toList.length = s.size := Array.length_toList
    simp only [List.map, Rows.uptoBulk, Rows.uptoBulkAll, h3]
    omega
  obtain ⟨m0, m1⟩ := bounds_i64 w4
  obtain ⟨q0, q1⟩ := bounds_i64 w5
  refine ⟨⟨k, b, un, i, m, q, s, A, ln, lc, ss⟩, rfl, ⟨by simp only; omega, by simp only; omega⟩, hTv, ?_, fun hb => ?_, ⟨⟨by simp only; omega, by simp only; omega⟩, by simp only; omega, by simp only; omega⟩, ?_, fun j hj => ?_⟩
  · simp only [hbulk]; omega
  · rw [hbulk] at hb ⊢
    have hmax : ∀ j, j < ln → (ss j).size < 18446744073709551616 := fun j hj => by have := (hss j hj).2; unfold maxLen at this; omega
    have := putL_len ⟨k, b, un, i, m, q, s, A, ln, lc, ss⟩ ⟨by simp only; omega, by simp only; omega⟩ (by simp only; omega) (by simp only; unfold maxLen at w6; omega) _ (tsL_len ss ln (fun j hj => (hss j hj).1) hmax)
    simp only at this
    omega
  · simp only [hbulk]; omega
  · simp only at hj ⊢
    have h5 := bulks.bsum_at D ln j hj
    rw [(hss j hj).1] at h5
    have h6 : (ss j).data.toList.length = (ss j).size := Array.length_toList
    simp only [Rows.uptoBulk, h6] at h5
    simp only [hbulk]; omega

set_option maxRecDepth 100000 in
theorem open_ops2 {b0 : Nat} {v : Value} {d : DataW H} {p : List MemPlace} (hv : Value.okWide Tryd.prog w .any b0 22 v) (h : DataW.Trod enc Tryd.prog w 0 (fun _ => true) held 22 v d p) (hk : Rows.uptoBulk d ≤ 1048576) :
    ∃ (A : Option Addr) (n c : Nat) (ops : Nat → OpV), v = .slice A n c ∧ Ops w A n ops ∧ n ≤ 1048576 ∧ wsum ops n ≤ 20971520 ∧ ∀ i, i < n → (ops i).In ∧ (ops i).s.size ≤ 1048576 ∧ (ops i).ln ≤ 1048576 ∧ ∀ j, j < (ops i).ln → ((ops i).ss j).size ≤ 1048576 := by
  obtain ⟨A, n, c, rfl⟩ := okWide_slice Tryd.underlying22 hv
  obtain ⟨fuel, hf⟩ := h
  rcases open_slice Tryd.underlying22 hf with ⟨hcs, hx⟩ | ⟨a, len, cap, m, f, D, Pl, hcs, _, hl, hm, hmm, hx, hel⟩
  · simp [Value.cells] at hcs
    obtain ⟨rfl, rfl, rfl⟩ := hcs
    exact ⟨none, 0, 0, fun _ => op0, rfl, fun h => absurd h (Nat.lt_irrefl _), by omega, Nat.zero_le _, fun i hi => absurd hi (Nat.not_lt_zero _)⟩
  · simp [Value.cells] at hcs
    obtain ⟨rfl, rfl, rfl⟩ := hcs
    simp only [if_true] at hmm
    simp only [Prod.mk.injEq] at hx
    obtain ⟨rfl, _⟩ := hx
    have hb := bulks.slice_range D n ((List.range (m - n)).map fun j => D (n + j))
    have hn := bulks.bsum_ge D n
    have each : ∀ i, i < n → ∃ o : OpV, (w.cells? 0 (a.add (i * 8)) 8 = some [.int .i64 o.k, .bool o.sec, .int .u64 o.u, .int .i64 o.i, .int .i64 o.n, .int .i64 o.m, .string o.s, .slice o.A o.ln o.lc]) ∧ o.Ok ∧ Tv w o.A o.ln o.lc o.ss ∧ o.ln ≤ Rows.uptoBulk (D i) ∧ (Rows.uptoBulk (D i) ≤ 1048576 → (putL o).length ≤ 20 * Rows.uptoBulk (D i)) ∧ o.In ∧ o.s.size ≤ Rows.uptoBulk (D i) ∧ ∀ j, j < o.ln → (o.ss j).size ≤ Rows.uptoBulk (D i) := fun i hi => by
      obtain ⟨cs', h1, h2⟩ := hel i (by omega)
      rw [cells30] at h1
      obtain ⟨o, rfl, r⟩ := open_op2 h2
      exact ⟨o, h1, r⟩
    obtain ⟨ops, ho⟩ := choose_op each
    refine ⟨some a, n, c, ops, rfl, fun hn0 => ?_, by omega, ?_, fun i hi => ?_⟩
    · have hc0 := (World.cells?_some (ho 0 hn0).1).2.2 0 (by decide)
      rw [Nat.zero_mul] at hc0
      obtain ⟨g, o, spot⟩ := a
      have hspot : spot = none := by simpa [Addr.add] using World.cell?_spot (hc0.trans rfl)
      subst hspot
      refine ⟨g, o, rfl, World.block_lt_of_cell? w ⟨g, o, none⟩ (by simpa [Addr.add] using hc0), fun i hi => ?_⟩
      obtain ⟨h1, h2, h3, h4, h5⟩ := ho i hi
      have hcell := (World.cells?_some h1).2.2
      have hat : ∀ j, j < 8 → w.cell? ⟨g, o + i * 8 + j, none⟩ = [Value.int .i64 (ops i).k, .bool (ops i).sec, .int .u64 (ops i).u, .int .i64 (ops i).i, .int .i64 (ops i).n, .int .i64 (ops i).m, .string (ops i).s, .slice (ops i).A (ops i).ln (ops i).lc][j]? := fun j hj => by
        have := hcell j hj
        rwa [at_of_add rfl, at_of_add rfl] at this
      have hbi := bulks.bsum_at D n i hi
      exact ⟨by have := hat 0 (by decide); rwa [Nat.add_zero] at this, hat 1 (by decide), hat 2 (by decide), hat 3 (by decide), hat 4 (by decide), hat 5 (by decide), hat 6 (by decide), hat 7 (by decide), h2, h3, sl_low h3.2, by omega⟩
    · have := wsum_le ops D n (fun i hi => (ho i hi).2.2.2.2.1 (by have := bulks.bsum_at D n i hi; omega))
      omega
    · obtain ⟨_, _, _, h4, _, h6, h7, h8⟩ := ho i hi
      have := bulks.bsum_at D n i hi
      exact ⟨h6, by omega, by omega, fun j hj => by have := h8 j hj; omega⟩
set_option maxRecDepth 100000 in
theorem open_arg_op {b0 : Nat} {v : Value} {d : DataW H} {p : List MemPlace} (hv : Value.okWide Tryd.prog w .any b0 30 v) (h : DataW.Trod enc Tryd.prog w 0 (fun _ => true) held 30 v d p) :
    ∃ o : OpV, v = o.val ∧ o.Ok ∧ Tv w o.A o.ln o.lc o.ss ∧ o.ln ≤ Rows.uptoBulk d ∧ (Rows.uptoBulk d ≤ 1048576 → (putL o).length ≤ 20 * Rows.uptoBulk d) ∧ o.In ∧ o.s.size ≤ Rows.uptoBulk d ∧ ∀ j, j < o.ln → (o.ss j).size ≤ Rows.uptoBulk d := by
  obtain ⟨cs, rfl, _⟩ := okWide_struct Tryd.underlying30 hv
  obtain ⟨fuel, hf⟩ := h
  obtain ⟨o, hcs, r⟩ := open_op2 hf
  refine ⟨o, ?_, r⟩
  have : cs.toList = [.int .i64 o.k, .bool o.sec, .int .u64 o.u, .int .i64 o.i, .int .i64 o.n, .int .i64 o.m, .string o.s, .slice o.A o.ln o.lc] := by simpa [Value.cells] using hcs
  obtain ⟨l⟩ := cs
  simp only at this
  subst this
  rfl
end
end Go.Proofs.YtnodjcapclkmhaaDoor
