/- The Writer's other calls: walked. -/
import Derived.Test.YtnodjcapclkmhaaDoorWriter
namespace Go.Proofs.YtnodjcapclkmhaaDoor
open Go.RowKit

/-- The n low bytes, the low one first. -/
def lowL (x : Nat) : Nat → List Int
  | 0 => []
  | n + 1 => ((x % 256 : Nat) : Int) :: lowL (x / 256) n
theorem lowL_length : ∀ n x, (lowL x n).length = n
  | 0, _ => rfl
  | n + 1, x => by unfold lowL; rw [List.length_cons, lowL_length n]

set_option maxRecDepth 100000 in
set_option maxHeartbeats 1000000 in
theorem low_any (B g : Nat) (xs : List Int) (r : Option Nat) (x n : Nat) (w : World) (hW : Wri w B g xs r) (hx : x < 18446744073709551616) (hn : n ≤ 8) (hl : xs.length + n ≤ 140737488355328) :
    Calls Tryd.prog 64 #[.pointer (some ⟨g, 0, none⟩), .int .u64 x, .int .i64 n] w fun e w' => e = .returned (.tuple #[]) ∧ ∃ r', Wri w' B g (xs ++ lowL x n) r' ∧ Wrote w w' g r r' := by
  obtain ⟨hBg, hgl, _⟩ := hW.lt
  go_enter Tryd.func64, Tryd.ntmps64
  go_wp2
  go_loopw [1, 7] (fun v i wr => ∃ (y k : Nat) (ys : List Int) (rr : Option Nat), v = .int .u64 y ∧ i = .int .i64 k ∧ k ≤ n ∧ Hid (Wri wr B g ys rr ∧ Wrote w wr g r rr ∧ xs ++ lowL x n = ys ++ lowL y (n - k) ∧ y < 18446744073709551616)) (fun _ i _ => n - (intOf i).toNat)
  case atStart => exact ⟨x, 0, xs, r, rfl, rfl, Nat.zero_le _, hW, Wrote.refl _ _ _, rfl, hx⟩
  case round =>
    obtain ⟨y, k, ys, rr, rfl, rfl, hk, hh⟩ := hrel
    obtain ⟨hWr, hwr, heq, hy⟩ := hh.out
    have hsz := hwr.size
    by_cases h : k < n
    · obtain ⟨v, c1, f1, hown, hr, hfin⟩ := hWr.opened
      have hlen : ys.length + 1 ≤ 140737488355328 := by
        have := congrArg List.length heq
        rw [List.length_append, List.length_append, lowL_length, lowL_length] at this; omega
      have heq2 : xs ++ lowL x n = (ys ++ [((y % 256 : Nat) : Int)]) ++ lowL (y / 256) (n - (k + 1)) := by
        rw [heq, show n - k = (n - (k + 1)) + 1 by omega, List.append_assoc]; rfl
      have HF := Lib.hid hfin; have HH := Lib.hid hh.out; have HQ := Lib.hid heq2; clear hfin hWr hwr heq heq2 hh
      go_wp2_with (first | (at_builtin; refine append_one rfl _ _ 26 rfl B 5 Tryd.underlying26 info5 _ _ rfl hown _ rfl hlen (by omega) ?_))
      intro q cap w1 ho hgr hat
      obtain ⟨c2, f2, h3, h4⟩ := HF.out (some q) _ w1 _ ho hgr rfl (hat.imp id fun h => ⟨_, rfl, h⟩)
      have H3 := Lib.hid h3; have H4 := Lib.hid h4; clear h3 h4 ho hgr hat
      go_wp2
      go_roundw
      case rel => exact ⟨y / 256, k + 1, _, _, by go_num, by go_num, by omega, H3.out, HH.out.2.1.trans H4.out, HQ.out, by omega⟩
      case measure => simp [intOf]; omega
    · obtain rfl : k = n := by omega
      have HH := Lib.hid hh.out; have HE := Lib.hid heq; clear hWr hwr heq hh
      go_wp2
      go_end0
      exact ⟨rfl, _, by rw [HE.out, show k - k = 0 by omega]; simpa [lowL] using HH.out.1, HH.out.2.1⟩

theorem fixed_any (B g : Nat) (xs : List Int) (r : Option Nat) (x : Nat) (w : World) (hW : Wri w B g xs r) (hx : x < 18446744073709551616) (hl : xs.length + 8 ≤ 140737488355328) :
    Calls Tryd.prog 37 #[.pointer (some ⟨g, 0, none⟩), .int .u64 x] w fun e w' => e = .returned (.tuple #[]) ∧ ∃ r', Wri w' B g (xs ++ lowL x 8) r' ∧ Wrote w w' g r r' := by
  have a1 := low_any B g xs r x 8 w hW hx (Nat.le_refl _) hl
  have HW := Lib.hid hW; clear hW
  go_enter Tryd.func37, Tryd.ntmps37
  go_wp2_with fail
  refine a1.mono ?_
  rintro e w' ⟨rfl, r', h1, h2⟩
  go_wp2
  go_end0
  exact ⟨rfl, r', h1, h2⟩

theorem len_any (B g : Nat) (xs : List Int) (r : Option Nat) (w : World) (hW : Wri w B g xs r) :
    Calls Tryd.prog 12 #[.pointer (some ⟨g, 0, none⟩)] w fun e w' => e = .returned (.int .i64 xs.length) ∧ w = w' := by
  obtain ⟨v, c1, f1, hown, hr⟩ := hW.cell
  rcases hown.2 with ⟨rfl, h0⟩ | ⟨q, cap, cur, rfl, _⟩
  · rw [h0]
    clear hW hown
    go_enter Tryd.func12, Tryd.ntmps12
    go_wp2
    go_ret
    exact ⟨rfl, rfl⟩
  · clear hW hown
    go_enter Tryd.func12, Tryd.ntmps12
    go_wp2
    go_ret
    exact ⟨rfl, rfl⟩

theorem convert_own {P : Program} {w : World} {base : Nat} {e src dst : TypeId} {v : Value} {xs : List Int} (h : ownsB w base e v xs) (hs : P.underlying src = some (.slice e)) (he : P.underlying e = some (.int .u8)) (hd : P.underlying dst = some .string) :
    (convert src dst v).run P w = .ok (.string (strOfNums xs)) w := by
  rcases h.2 with ⟨rfl, h0⟩ | ⟨g, cap, cur, rfl, _⟩
  · obtain rfl : xs = [] := List.length_eq_zero_iff.1 h0
    rw [run_convert_bytes_nil w src e hs he 0 0 dst hd]
    rfl
  · refine run_convert_bytes_arg w src e hs he g 0 xs.length cap xs rfl ?_ dst hd
    intro i hi
    have hc := World.ownsRow.cells h (g := g) rfl i (.int .u8 (xs.getD i 0)) (by simp [List.getD, hi])
    have e0 : (⟨g, 0, none⟩ : Addr).add i = ⟨g, 0 + i, none⟩ := by unfold Addr.add; split <;> simp_all
    rwa [e0] at hc

theorem out_any (B g : Nat) (xs : List Int) (r : Option Nat) (w : World) (hW : Wri w B g xs r) :
    Calls Tryd.prog 13 #[.pointer (some ⟨g, 0, none⟩)] w fun e w' => e = .returned (.string (strOfNums xs)) ∧ w = w' := by
  obtain ⟨v, c1, f1, hown, hr⟩ := hW.cell
  have kc := convert_own (P := Tryd.prog) (src := 26) (dst := 9) hown Tryd.underlying26 Tryd.underlying5 Tryd.underlying9
  clear hW hown
  go_enter Tryd.func13, Tryd.ntmps13
  go_wp2
  go_ret
  exact ⟨rfl, rfl⟩

theorem new_any (w : World) : Calls Tryd.prog 10 #[] w fun e w' => e = .returned (.pointer (some ⟨w.heap.size, 0, none⟩)) ∧ w' = w.alloc (.cells #[.slice none 0 0] 71) := by
  go_enter Tryd.func10, Tryd.ntmps10
  go_wp2
  go_ret
  exact ⟨rfl, rfl⟩
theorem new_buf (w : World) (B : Nat) (t e : TypeId) (hB : B ≤ w.heap.size) : Buf (w.alloc (.cells #[.slice none 0 0] t)) B w.heap.size t e [] none :=
  ⟨_, heap_alloc_new w _, hB, World.ownsRow_nil _ _ _ _, rfl, fun e => by cases e⟩

/-- A string's bytes. -/
def nums (s : ByteArray) : List Int := s.data.toList.map fun b => (b.toNat : Int)
/-- A text's bytes. -/
def textL (s : ByteArray) : List Int := uvL s.size ++ nums s
theorem nums_length (s : ByteArray) : (nums s).length = s.size := by unfold nums; rw [List.length_map, Array.length_toList]; rfl

theorem ownsB_form {w : World} {B : Nat} {e : TypeId} {v : Value} {xs : List Int} (h : ownsB w B e v xs) : ∃ A n c, v = .slice A n c := by
  rcases h.2 with ⟨rfl, _⟩ | ⟨g, cap, cur, rfl, _⟩
  · exact ⟨_, _, _, rfl⟩
  · exact ⟨_, _, _, rfl⟩

set_option maxRecDepth 100000 in
set_option maxHeartbeats 1000000 in
theorem text_any (B g : Nat) (xs : List Int) (r : Option Nat) (s : ByteArray) (w : World) (hW : Wri w B g xs r) (hl : (xs ++ textL s).length ≤ 140737488355328) :
    Calls Tryd.prog 42 #[.pointer (some ⟨g, 0, none⟩), .string s] w fun e w' => e = .returned (.tuple #[]) ∧ ∃ r', Wri w' B g (xs ++ textL s) r' ∧ Wrote w w' g r r' := by
  have hl1 : (xs ++ uvL s.size).length ≤ 140737488355328 := by unfold textL at hl; rw [← List.append_assoc, List.length_append] at hl; omega
  have hl2 : (xs ++ uvL s.size).length + s.size ≤ 140737488355328 := by unfold textL at hl; rw [← List.append_assoc, List.length_append, nums_length] at hl; exact hl
  have a1 := uint_any B g xs r s.size w hW (by omega) hl1
  have HW := Lib.hid hW; have HL := Lib.hid hl; clear hW hl
  go_enter Tryd.func42, Tryd.ntmps42
  go_wp2_with fail
  refine a1.mono ?_
  rintro e w1 ⟨rfl, r1, h1, h2⟩
  obtain ⟨hBg, hgl, hr1⟩ := h1.lt
  obtain ⟨v, c1, f1, hown, hr, hfin⟩ := h1.opened
  have HF := Lib.hid hfin; have H2 := Lib.hid h2; have H1 := Lib.hid h1; clear hfin h1 h2
  go_wp2_with (first | (at_builtin; refine append_text rfl _ _ 26 9 rfl B 5 Tryd.underlying26 Tryd.underlying9 info5 _ _ rfl hown s rfl hl2 (by omega) ?_))
  intro v' w2 ho hgr hat
  obtain ⟨A', n', c', hv'⟩ := ownsB_form ho
  subst hv'
  obtain ⟨c2, f2, h3, h4⟩ := HF.out _ _ w2 _ ho hgr rfl hat
  have H3 := Lib.hid h3; have H4 := Lib.hid h4; clear h3 h4 ho hgr hat
  go_wp2
  go_end0
  exact ⟨rfl, _, H3.out, H2.out.trans H4.out⟩
end Go.Proofs.YtnodjcapclkmhaaDoor
