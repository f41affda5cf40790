/- A slice of texts that came in, opened: how its bulk bounds it. -/
import Derived.Test.YtnodjcapclkmhaaDoorOpenOps
namespace Go.Proofs.YtnodjcapclkmhaaDoor
open Go.ChangeShapes Go.WideShapes Go.ChangeAt Go.RowKit Go.Deep

section
variable {H : Type} {enc : TypeId × Value → H} {w : World} {held : Bool}
set_option maxRecDepth 100000 in
theorem open_arg_txs {b0 : Nat} {v : Value} {d : DataW H} {p : List MemPlace} (hv : Value.okWide Tryd.prog w .any b0 28 v) (h : DataW.Trod enc Tryd.prog w 0 (fun _ => true) held 28 v d p) :
    ∃ (A : Option Addr) (n c : Nat) (ss : Nat → ByteArray), v = .slice A n c ∧ Tv w A n c ss ∧ n ≤ Rows.uptoBulk d ∧ (Rows.uptoBulk d ≤ 1048576 → (textsL ss n).length ≤ 10 + 10 * Rows.uptoBulk d) ∧ ∀ j, j < n → (ss j).size ≤ Rows.uptoBulk d := by
  obtain ⟨A, n, c, rfl⟩ := okWide_slice Tryd.underlying28 hv
  obtain ⟨fuel, hf⟩ := h
  obtain ⟨A', n', c', ss, D, e7, hTv, hD, hss⟩ := open_txs hf
  simp [Value.cells] at e7
  obtain ⟨rfl, rfl, rfl⟩ := e7
  simp only at hD
  have hL : n ≤ Rows.uptoBulk d ∧ bulks.bsum D n ≤ Rows.uptoBulk d := by
    rcases hD with rfl | ⟨r, hr⟩
    · exact ⟨Nat.zero_le _, Nat.zero_le _⟩
    · rw [hr]
      have h1 := bulks.slice_range D n r
      have h2 := bulks.bsum_ge D n
      omega
  refine ⟨A, n, c, ss, rfl, hTv, hL.1, fun hb => ?_, fun j hj => ?_⟩
  · have h1 := tsL_len ss n (fun j hj => (hss j hj).1) (fun j hj => by have := (hss j hj).2; unfold maxLen at this; omega)
    have h2 := uv_len10 (show n < 18446744073709551616 by omega)
    unfold textsL
    rw [List.length_append]
    omega
  · have h5 := bulks.bsum_at D n j hj
    rw [(hss j hj).1] at h5
    have h6 : (ss j).data.toList.length = (ss j).size := Array.length_toList
    simp only [Rows.uptoBulk, h6] at h5
    omega
end
end Go.Proofs.YtnodjcapclkmhaaDoor
