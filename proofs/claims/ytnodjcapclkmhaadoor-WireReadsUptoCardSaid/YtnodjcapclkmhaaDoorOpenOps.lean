/- A slice of Ops that came in, opened; its bulk bounds what is put. -/
import Derived.Test.YtnodjcapclkmhaaDoorWritesW
import Derived.Test.YtnodjcapclkmhaaDoorBulk
import Derived.ProofKit
import Derived.Deep.Slices
import Derived.SliceStrings
import Derived.OpenShut
namespace Go.Proofs.YtnodjcapclkmhaaDoor
open Go.ChangeShapes Go.WideShapes Go.ChangeAt Go.RowKit Go.Deep

theorem cells30 : Tryd.prog.cellsOf 30 = 8 := by kernel_rfl
theorem cells3 : Tryd.prog.cellsOf 3 = 1 := by kernel_rfl
theorem cells4 : Tryd.prog.cellsOf 4 = 1 := by kernel_rfl
theorem cells27 : Tryd.prog.cellsOf 27 = 1 := by kernel_rfl
theorem cells2 : Tryd.prog.cellsOf 2 = 1 := by kernel_rfl
theorem cells28 : Tryd.prog.cellsOf 28 = 1 := by kernel_rfl
theorem cells9 : Tryd.prog.cellsOf 9 = 1 := by kernel_rfl
theorem at_of_add {x : Addr} {g o : Nat} (hx : x = ⟨g, o, none⟩) (i : Nat) : x.add i = ⟨g, o + i, none⟩ := by
  subst hx; unfold Addr.add; split <;> simp_all
theorem sl_of {w : World} {x : Addr} {n : Nat} {f : Nat → Value} (h : ∀ i, i < n → w.cell? (x.add i) = some (f i)) : Sl w (some x) n f := by
  intro hn
  obtain ⟨g, o, spot⟩ := x
  have hc := h 0 hn
  have hspot : spot = none := by simpa [Addr.add] using World.cell?_spot hc
  subst hspot
  refine ⟨g, o, rfl, World.block_lt_of_cell? w _ (by simpa [Addr.add] using hc), fun i hi => ?_⟩
  have := h i hi
  rwa [at_of_add rfl] at this

section
variable {H : Type} {enc : TypeId × Value → H} {w : World} {held : Bool}

/-- A slice of texts by its cell. -/
theorem open_txs {fuel : Nat} {cs : List Value} {x : DataW H × List MemPlace} (h : DataW.trod enc Tryd.prog w 0 (fun _ => true) held fuel 28 cs = some x) :
    ∃ (A : Option Addr) (n c : Nat) (ss : Nat → ByteArray) (D : Nat → DataW H), cs = [.slice A n c] ∧ Tv w A n c ss ∧ (n = 0 ∨ ∃ r, x.1 = .slice ((List.range n).map D) r) ∧ ∀ i, i < n → D i = .lit (.string (ss i).data.toList) ∧ (ss i).size ≤ maxLen := by
  rcases open_slice1 Tryd.underlying28 cells9 h with ⟨rfl, rfl⟩ | ⟨a, len, cap, m, f, V, D, Pl, rfl, hb, hl, hm, hmm, rfl, hx⟩
  · exact ⟨none, 0, 0, fun _ => ⟨#[]⟩, fun _ => .nil, rfl, ⟨fun _ => ⟨rfl, rfl⟩, fun h => absurd h (Nat.lt_irrefl _)⟩, .inl rfl, fun i h => absurd h (Nat.not_lt_zero _)⟩
  · simp only [if_true] at hmm
    have hs : ∀ i, i < len → ∃ s : ByteArray, V i = .string s ∧ D i = .lit (.string s.data.toList) ∧ s.size ≤ maxLen := fun i hi => by
      obtain ⟨s, e1, e2, e3⟩ := DataW.trod_string Tryd.underlying9 (hx i (by omega)).2
      exact ⟨s, by simpa using e1, congrArg Prod.fst e2, e3⟩
    obtain ⟨ss, hss⟩ := choose_lt (α := ByteArray) (p := fun i s => V i = .string s ∧ D i = .lit (.string s.data.toList) ∧ s.size ≤ maxLen) hs
    refine ⟨some a, len, cap, ss, D, rfl, ⟨(fun e => by cases e), sl_of fun i hi => ?_⟩, .inr ⟨_, rfl⟩, fun i hi => (hss i hi).2⟩
    rw [(hx i (by omega)).1, (hss i hi).1]

theorem tsL_len (ss : Nat → ByteArray) {D : Nat → DataW H} : ∀ n, (∀ i, i < n → D i = .lit (.string (ss i).data.toList)) → (∀ i, i < n → (ss i).size < 18446744073709551616) → (tsL ss n).length ≤ 10 * bulks.bsum D n
  | 0, _, _ => Nat.zero_le _
  | n + 1, h, hs => by
    have h1 := tsL_len ss n (fun i hi => h i (by omega)) (fun i hi => hs i (by omega))
    show (tsL ss n ++ textL (ss n)).length ≤ 10 * (bulks.bsum D n + _)
    rw [h n (by omega), List.length_append]
    have h2 := uv_len10 (hs n (by omega))
    unfold textL
    rw [List.length_append, nums_length]
    have h3 : (ss n).data.toList.length = (ss n).size := Array.length_toList
    simp only [Rows.uptoBulk, h3]
    omega
theorem putL_len (o : OpV) (ho : o.Ok) (hln : o.ln < 18446744073709551616) (hs : o.s.size < 18446744073709551616) (T : Nat) (hT : (tsL o.ss o.ln).length ≤ T) : (putL o).length ≤ 10 + 8 + o.s.size + T := by
  have h1 := uv_len10 ho.1
  have h2 := uv_len10 (zig_lt ho.2)
  have h3 := uv_len10 hs
  have h4 := uv_len10 hln
  unfold putL
  repeat' split
  all_goals first
    | omega
    | (rw [lowL_length]; omega)
    | (unfold textL; rw [List.length_append, nums_length]; omega)
    | (unfold textsL; rw [List.length_append]; omega)
    | (simp only [List.length_nil]; omega)

theorem list8 {α : Type} {l : List α} (h : l.length = 8) : ∃ a b c d e f g i, l = [a, b, c, d, e, f, g, i] := by
  match l, h with
  | [a, b, c, d, e, f, g, i], _ => exact ⟨a, b, c, d, e, f, g, i, rfl⟩

set_option maxRecDepth 100000 in
/-- One Op: its cells, and how its bulk bounds what it puts. -/
theorem open_op {fuel : Nat} {cs : List Value} {x : DataW H × List MemPlace} (h : DataW.trod enc Tryd.prog w 0 (fun _ => true) held fuel 30 cs = some x) :
    ∃ o : OpV, cs = [.int .i64 o.k, .bool o.sec, .int .u64 o.u, .int .i64 o.i, .int .i64 o.n, .int .i64 o.m, .string o.s, .slice o.A o.ln o.lc] ∧ o.Ok ∧ Tv w o.A o.ln o.lc o.ss ∧ o.ln ≤ Rows.uptoBulk x.1 ∧ (Rows.uptoBulk x.1 ≤ 1048576 → (putL o).length ≤ 20 * Rows.uptoBulk x.1) := by
  obtain ⟨xs, n, _, rfl, hl, hlen, hf⟩ := DataW.trod_struct Tryd.underlying30 h
  rw [cells30] at hl
  obtain ⟨c0, c1, c2, c3, c4, c5, c6, c7, rfl⟩ := list8 hl
  obtain ⟨y0, y1, y2, y3, y4, y5, y6, y7, rfl⟩ := list8 (hlen.trans rfl)
  have t0 : DataW.trod enc Tryd.prog w 0 (fun _ => true) held n 3 (([c0, c1, c2, c3, c4, c5, c6, c7].drop 0).take (Tryd.prog.cellsOf 3)) = some y0 := hf 0 _ rfl
  rw [cells3] at t0
  have t1 : DataW.trod enc Tryd.prog w 0 (fun _ => true) held n 4 (([c0, c1, c2, c3, c4, c5, c6, c7].drop 1).take (Tryd.prog.cellsOf 4)) = some y1 := hf 1 _ rfl
  rw [cells4] at t1
  have t2 : DataW.trod enc Tryd.prog w 0 (fun _ => true) held n 27 (([c0, c1, c2, c3, c4, c5, c6, c7].drop 2).take (Tryd.prog.cellsOf 27)) = some y2 := hf 2 _ rfl
  rw [cells27] at t2
  have t3 : DataW.trod enc Tryd.prog w 0 (fun _ => true) held n 2 (([c0, c1, c2, c3, c4, c5, c6, c7].drop 3).take (Tryd.prog.cellsOf 2)) = some y3 := hf 3 _ rfl
  rw [cells2] at t3
  have t4 : DataW.trod enc Tryd.prog w 0 (fun _ => true) held n 3 (([c0, c1, c2, c3, c4, c5, c6, c7].drop 4).take (Tryd.prog.cellsOf 3)) = some y4 := hf 4 _ rfl
  rw [cells3] at t4
  have t5 : DataW.trod enc Tryd.prog w 0 (fun _ => true) held n 3 (([c0, c1, c2, c3, c4, c5, c6, c7].drop 5).take (Tryd.prog.cellsOf 3)) = some y5 := hf 5 _ rfl
  rw [cells3] at t5
  have t6 : DataW.trod enc Tryd.prog w 0 (fun _ => true) held n 9 (([c0, c1, c2, c3, c4, c5, c6, c7].drop 6).take (Tryd.prog.cellsOf 9)) = some y6 := hf 6 _ rfl
  rw [cells9] at t6
  have t7 : DataW.trod enc Tryd.prog w 0 (fun _ => true) held n 28 (([c0, c1, c2, c3, c4, c5, c6, c7].drop 7).take (Tryd.prog.cellsOf 28)) = some y7 := hf 7 _ rfl
  rw [cells28] at t7
  clear hf hlen hl h
  obtain ⟨k, e0, rfl, w0⟩ := DataW.trod_int Tryd.underlying3 t0
  obtain ⟨b, e1, rfl⟩ := DataW.trod_bool Tryd.underlying4 t1
  obtain ⟨u, e2, rfl, w2⟩ := DataW.trod_int Tryd.underlying27 t2
  obtain ⟨i, e3, rfl, w3⟩ := DataW.trod_int Tryd.underlying2 t3
  obtain ⟨m, e4, rfl, w4⟩ := DataW.trod_int Tryd.underlying3 t4
  obtain ⟨q, e5, rfl, w5⟩ := DataW.trod_int Tryd.underlying3 t5
  obtain ⟨s, e6, rfl, w6⟩ := DataW.trod_string Tryd.underlying9 t6
  obtain ⟨A, ln, lc, ss, D, e7, hTv, hD, hss⟩ := open_txs t7
  simp only [List.drop, List.take, List.cons.injEq, and_true] at e0 e1 e2 e3 e4 e5 e6 e7
  subst e0 e1 e2 e3 e4 e5 e6 e7
  obtain ⟨u0, u1⟩ := bounds_u64 w2
  obtain ⟨i0, i1⟩ := bounds_i64 w3
  obtain ⟨un, rfl⟩ := Int.eq_ofNat_of_zero_le u0
  have hL : ln ≤ Rows.uptoBulk y7.1 ∧ bulks.bsum D ln ≤ Rows.uptoBulk y7.1 := by
    rcases hD with rfl | ⟨r, hr⟩
    · exact ⟨Nat.zero_le _, Nat.zero_le _⟩
    · rw [hr]
      have h1 := bulks.slice_range D ln r
      have h2 := bulks.bsum_ge D ln
      omega
  have hbulk : Rows.uptoBulk (DataW.agg (List.map (fun x => x.1) [(DataW.lit (Lit.int IntKind.i64 k), []), (DataW.lit (Lit.bool b), []), (DataW.lit (Lit.int IntKind.u64 un), []), (DataW.lit (Lit.int IntKind.i64 i), []), (DataW.lit (Lit.int IntKind.i64 m), []), (DataW.lit (Lit.int IntKind.i64 q), []), (DataW.lit (Lit.string s.data.toList), []), y7]) : DataW H) = s.size + Rows.uptoBulk y7.1 + 8 := by
    have h3 : s.data.toList.length = s.size := Array.length_toList
    simp only [List.map, Rows.uptoBulk, Rows.uptoBulkAll, h3]
    omega
  refine ⟨⟨k, b, un, i, m, q, s, A, ln, lc, ss⟩, rfl, ⟨by simp only; omega, by simp only; omega⟩, hTv, ?_, fun hb => ?_⟩
  · simp only [hbulk]; omega
  · rw [hbulk] at hb ⊢
    have hmax : ∀ j, j < ln → (ss j).size < 18446744073709551616 := fun j hj => by have := (hss j hj).2; unfold maxLen at this; omega
    have := putL_len ⟨k, b, un, i, m, q, s, A, ln, lc, ss⟩ ⟨by simp only; omega, by simp only; omega⟩ (by simp only; omega) (by simp only; unfold maxLen at w6; omega) _ (tsL_len ss ln (fun j hj => (hss j hj).1) hmax)
    simp only at this
    omega
theorem wsum_le (ops : Nat → OpV) (D : Nat → DataW H) : ∀ n, (∀ i, i < n → (putL (ops i)).length ≤ 20 * Rows.uptoBulk (D i)) → wsum ops n ≤ 20 * bulks.bsum D n
  | 0, _ => Nat.zero_le _
  | n + 1, h => by
    have h1 := wsum_le ops D n (fun i hi => h i (by omega))
    have h2 := h n (by omega)
    show wsum ops n + _ ≤ 20 * (bulks.bsum D n + _)
    omega

def op0 : OpV := ⟨0, false, 0, 0, 0, 0, ⟨#[]⟩, none, 0, 0, fun _ => ⟨#[]⟩⟩
theorem choose_op {n : Nat} {p : Nat → OpV → Prop} (h : ∀ i, i < n → ∃ x, p i x) : ∃ f : Nat → OpV, ∀ i, i < n → p i (f i) := by
  classical
  refine ⟨fun i => if hi : i < n then Classical.choose (h i hi) else op0, fun i hi => ?_⟩
  simp only [dif_pos hi]
  exact Classical.choose_spec (h i hi)

theorem sl_low {w : World} {A : Option Addr} {n : Nat} {f : Nat → Value} (h : Sl w A n f) : 0 < n → ∀ a, A = some a → a.block < w.heap.size := fun hn a e => by
  obtain ⟨g, o, e2, hg, _⟩ := h hn
  rw [e] at e2
  obtain rfl := Option.some.inj e2
  exact hg

set_option maxRecDepth 100000 in
theorem open_ops {b0 : Nat} {v : Value} {d : DataW H} {p : List MemPlace} (hv : Value.okWide Tryd.prog w .any b0 22 v) (h : DataW.Trod enc Tryd.prog w 0 (fun _ => true) held 22 v d p) (hk : Rows.uptoBulk d ≤ 1048576) :
    ∃ (A : Option Addr) (n c : Nat) (ops : Nat → OpV), v = .slice A n c ∧ Ops w A n ops ∧ n ≤ 1048576 ∧ wsum ops n ≤ 20971520 := by
  obtain ⟨A, n, c, rfl⟩ := okWide_slice Tryd.underlying22 hv
  obtain ⟨fuel, hf⟩ := h
  rcases open_slice Tryd.underlying22 hf with ⟨hcs, hx⟩ | ⟨a, len, cap, m, f, D, Pl, hcs, _, hl, hm, hmm, hx, hel⟩
  · simp [Value.cells] at hcs
    obtain ⟨rfl, rfl, rfl⟩ := hcs
    exact ⟨none, 0, 0, fun _ => op0, rfl, fun h => absurd h (Nat.lt_irrefl _), by omega, Nat.zero_le _⟩
  · simp [Value.cells] at hcs
    obtain ⟨rfl, rfl, rfl⟩ := hcs
    simp only [if_true] at hmm
    simp only [Prod.mk.injEq] at hx
    obtain ⟨rfl, _⟩ := hx
    have hb := bulks.slice_range D n ((List.range (m - n)).map fun j => D (n + j))
    have hn := bulks.bsum_ge D n
    have each : ∀ i, i < n → ∃ o : OpV, (w.cells? 0 (a.add (i * 8)) 8 = some [.int .i64 o.k, .bool o.sec, .int .u64 o.u, .int .i64 o.i, .int .i64 o.n, .int .i64 o.m, .string o.s, .slice o.A o.ln o.lc]) ∧ o.Ok ∧ Tv w o.A o.ln o.lc o.ss ∧ o.ln ≤ Rows.uptoBulk (D i) ∧ (Rows.uptoBulk (D i) ≤ 1048576 → (putL o).length ≤ 20 * Rows.uptoBulk (D i)) := fun i hi => by
      obtain ⟨cs', h1, h2⟩ := hel i (by omega)
      rw [cells30] at h1
      obtain ⟨o, rfl, r⟩ := open_op h2
      exact ⟨o, h1, r⟩
    obtain ⟨ops, ho⟩ := choose_op each
    refine ⟨some a, n, c, ops, rfl, fun hn0 => ?_, by omega, ?_⟩
    · have hc0 := (World.cells?_some (ho 0 hn0).1).2.2 0 (by decide)
      rw [Nat.zero_mul] at hc0
      obtain ⟨g, o, spot⟩ := a
      have hspot : spot = none := by simpa [Addr.add] using World.cell?_spot (hc0.trans rfl)
      subst hspot
      refine ⟨g, o, rfl, World.block_lt_of_cell? w ⟨g, o, none⟩ (by simpa [Addr.add] using hc0), fun i hi => ?_⟩
      obtain ⟨h1, h2, h3, h4, h5⟩ := ho i hi
      have hcell := (World.cells?_some h1).2.2
      have hat : ∀ j, j < 8 → w.cell? ⟨g, o + i * 8 + j, none⟩ = [Value.int .i64 (ops i).k, .bool (ops i).sec, .int .u64 (ops i).u, .int .i64 (ops i).i, .int .i64 (ops i).n, .int .i64 (ops i).m, .string (ops i).s, .slice (ops i).A (ops i).ln (ops i).lc][j]? := fun j hj => by
        have := hcell j hj
        rwa [at_of_add rfl, at_of_add rfl] at this
      have hbi := bulks.bsum_at D n i hi
      exact ⟨by have := hat 0 (by decide); rwa [Nat.add_zero] at this, hat 1 (by decide), hat 2 (by decide), hat 3 (by decide), hat 4 (by decide), hat 5 (by decide), hat 6 (by decide), hat 7 (by decide), h2, h3, sl_low h3.2, by omega⟩
    · have := wsum_le ops D n (fun i hi => (ho i hi).2.2.2.2 (by have := bulks.bsum_at D n i hi; omega))
      omega
end
end Go.Proofs.YtnodjcapclkmhaaDoor
