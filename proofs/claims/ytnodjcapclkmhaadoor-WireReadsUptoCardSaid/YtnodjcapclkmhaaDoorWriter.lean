/- The Writer's calls: walked. -/
import Derived.Test.YtnodjcapclkmhaaDoorRows
import Derived.Test.YtnodjcapclkmhaaDoorBuf
import Derived.WalkLawsBesides
import Derived.WalkSpells
import Derived.Lib.Hide
import Derived.Outline
import Derived.Deep.QuietTactic
import Derived.BigQuiet
import Derived.Laws.Bits64
import Derived.Laws.BitsAllLaws
namespace Go.Proofs.YtnodjcapclkmhaaDoor
open Go.RowKit

theorem info5 : (Tryd.prog.info? 5).map (fun i => (i.zero, i.size, i.bytes)) = some (some (.int .u8 0), 1, 1) := by kernel_rfl

/-- A Writer at block g that has written xs. -/
abbrev Wri (w : World) (B g : Nat) (xs : List Int) (r : Option Nat) : Prop := Buf w B g 71 5 xs r

set_option maxRecDepth 100000 in
set_option maxHeartbeats 1000000 in
theorem byte_any (B g : Nat) (xs : List Int) (r : Option Nat) (b : Int) (w : World) (hW : Wri w B g xs r) (hl : xs.length + 1 ≤ 140737488355328) :
    Calls Tryd.prog 39 #[.pointer (some ⟨g, 0, none⟩), .int .u8 b] w fun e w' => e = .returned (.tuple #[]) ∧ ∃ r', Wri w' B g (xs ++ [b]) r' ∧ Wrote w w' g r r' := by
  obtain ⟨hBg, hgl, _⟩ := hW.lt
  obtain ⟨v, c1, f1, hown, hr, hfin⟩ := hW.opened
  have HF := Lib.hid hfin; clear hfin hW
  go_enter Tryd.func39, Tryd.ntmps39
  go_wp2_with (first | (at_builtin; refine append_one rfl _ _ 26 rfl B 5 Tryd.underlying26 info5 _ _ rfl hown _ rfl hl (by omega) ?_))
  intro k cap w1 ho hgr hat
  obtain ⟨c2, f2, h3, h4⟩ := HF.out (some k) _ w1 _ ho hgr rfl (hat.imp id fun h => ⟨_, rfl, h⟩)
  have H3 := Lib.hid h3; have H4 := Lib.hid h4; clear h3 h4 ho hgr hat
  go_wp2
  go_end0
  exact ⟨rfl, _, H3.out, H4.out⟩


/-- The bytes of a varint. -/
def uvL (x : Nat) : List Int := if x < 128 then [(x : Int)] else ((x % 128 + 128 : Nat) : Int) :: uvL (x / 128)
theorem uvL_last {x : Nat} (h : x < 128) : uvL x = [(x : Int)] := by unfold uvL; rw [if_pos h]
theorem uvL_more {x : Nat} (h : 128 ≤ x) : uvL x = ((x % 128 + 128 : Nat) : Int) :: uvL (x / 128) := by rw [uvL, if_neg (by omega)]
theorem uvL_pos (x : Nat) : 1 ≤ (uvL x).length := by
  unfold uvL; split
  · exact Nat.le_refl _
  · simp
theorem or_128 : ∀ n : Fin 256, n.1 ||| 128 = n.1 % 128 + 128 := by decide +kernel
theorem or128 (y : Nat) : bits .or .u8 ((y : Int) % 256) 128 = ((y % 128 + 128 : Nat) : Int) := by
  have e := or_128 ⟨y % 256, Nat.mod_lt _ (by decide)⟩
  have t := u8_or_nat (y % 256) 128 (Nat.mod_lt _ (by decide)) (by decide)
  simp only at e
  rw [e] at t
  have e1 : (((y % 256 : Nat)) : Int) = (y : Int) % 256 := by omega
  rw [e1] at t
  refine Eq.trans t ?_
  omega

set_option maxRecDepth 100000 in
set_option maxHeartbeats 1000000 in
theorem uint_any (B g : Nat) (xs : List Int) (r : Option Nat) (x : Nat) (w : World) (hW : Wri w B g xs r) (hx : x < 18446744073709551616) (hl : (xs ++ uvL x).length ≤ 140737488355328) :
    Calls Tryd.prog 31 #[.pointer (some ⟨g, 0, none⟩), .int .u64 x] w fun e w' => e = .returned (.tuple #[]) ∧ ∃ r', Wri w' B g (xs ++ uvL x) r' ∧ Wrote w w' g r r' := by
  obtain ⟨hBg, hgl, _⟩ := hW.lt
  go_enter Tryd.func31, Tryd.ntmps31
  go_wp2
  go_loopw [1] (fun v wr => ∃ (y : Nat) (ys : List Int) (rr : Option Nat), v = .int .u64 y ∧ Hid (Wri wr B g ys rr ∧ Wrote w wr g r rr ∧ xs ++ uvL x = ys ++ uvL y ∧ y < 18446744073709551616)) (fun v _ => (intOf v).toNat)
  case atStart => exact ⟨x, xs, r, rfl, hW, Wrote.refl _ _ _, rfl, hx⟩
  case round =>
    obtain ⟨y, ys, rr, rfl, hh⟩ := hrel
    obtain ⟨hWr, hwr, heq, hy⟩ := hh.out
    have hsz := hwr.size
    obtain ⟨v, c1, f1, hown, hr, hfin⟩ := hWr.opened
    have hlen : ys.length + 1 ≤ 140737488355328 := by
      have := uvL_pos y
      rw [heq, List.length_append] at hl; omega
    have HF := Lib.hid hfin; have HH := Lib.hid hh.out; clear hfin hWr hwr heq hh
    by_cases h : 128 ≤ y
    · have h' : (128 : Int) ≤ (y : Int) := by omega
      have kor := or128 y
      go_wp2_with (first | (at_builtin; refine append_one rfl _ _ 26 rfl B 5 Tryd.underlying26 info5 _ _ rfl hown _ rfl hlen (by omega) ?_))
      intro k cap w1 ho hgr hat
      obtain ⟨c2, f2, h3, h4⟩ := HF.out (some k) _ w1 _ ho hgr rfl (hat.imp id fun h => ⟨_, rfl, h⟩)
      have H3 := Lib.hid h3; have H4 := Lib.hid h4; clear h3 h4 ho hgr hat kor
      go_wp2
      go_roundw
      case rel => exact ⟨y / 128, _, _, by go_num, H3.out, HH.out.2.1.trans H4.out, by rw [HH.out.2.2.1, uvL_more h, List.append_assoc]; rfl, by omega⟩
      case measure => simp [intOf]; omega
    · have h' : ¬ (128 : Int) ≤ (y : Int) := by omega
      have h2 : (y : Int) % 256 = y := by omega
      go_wp2_with (first | (at_builtin; refine append_one rfl _ _ 26 rfl B 5 Tryd.underlying26 info5 _ _ rfl hown _ rfl hlen (by omega) ?_))
      intro k cap w1 ho hgr hat
      obtain ⟨c2, f2, h3, h4⟩ := HF.out (some k) _ w1 _ ho hgr rfl (hat.imp id fun h => ⟨_, rfl, h⟩)
      have H3 := Lib.hid h3; have H4 := Lib.hid h4; clear h3 h4 ho hgr hat
      go_wp2
      go_end0
      exact ⟨rfl, _, by rw [HH.out.2.2.1, uvL_last (by omega)]; exact H3.out, HH.out.2.1.trans H4.out⟩
end Go.Proofs.YtnodjcapclkmhaaDoor
