/- remitlaw28.lives: walked: it answers true. -/
import Derived.Test.YtodekiimkbejnaaGreatDoorJoinsL
namespace Go.Proofs.YtodekiimkbejnaaGreatDoor
open Go.RowKit Go.WideMaps Go.Maps Go.Sort

def bOut : List UInt8 := [111, 117, 116, 115, 105, 100, 101, 46, 69, 85, 82]
def bClr : List UInt8 := [99, 108, 101, 97, 114, 105, 110, 103, 46, 69, 85, 82]
def lgL : Nat → LegV := fun i => if i = 0 then ⟨⟨#[111, 117, 116, 115, 105, 100, 101, 46, 69, 85, 82]⟩, -5⟩ else ⟨⟨#[99, 108, 101, 97, 114, 105, 110, 103, 46, 69, 85, 82]⟩, 5⟩
def litP (A : Option Addr) : Nat → PostV := fun _ => ⟨⟨#[120]⟩, 0, ⟨#[110]⟩, A, 2, 2, lgL⟩
def litE : Nat → PostV := fun _ => ⟨⟨#[120]⟩, 0, ⟨#[]⟩, none, 0, 0, lgL⟩
def litD : DataW Unit := .map [(.string bClr, .lit (.int .i64 5)), (.string bOut, .lit (.int .i64 (-5)))]
theorem lit_good (A : Option Addr) : postsR (litP A) 1 = (0, litD) := by
  rw [postsR_alike (ps := litP none) (qs := litP A) 1 (fun i _ => ⟨rfl, rfl, rfl, rfl, rfl⟩)]
  kernel_rfl
theorem lit_bad : postsR litE 1 = (1, .map []) := by kernel_rfl
theorem lit_keys : sortedKeys litD = [bClr, bOut] := by
  unfold sortedKeys
  have e : strKeys litD = [bClr, bOut] := rfl
  rw [e]
  exact List.mergeSort_of_pairwise (List.pairwise_cons.2 ⟨fun y hy => by obtain rfl := List.mem_singleton.1 hy; decide, List.pairwise_singleton _ _⟩)
theorem lit_cells : legCells litD [bClr, bOut] = [.string ⟨#[99, 108, 101, 97, 114, 105, 110, 103, 46, 69, 85, 82]⟩, .int .i64 5, .string ⟨#[111, 117, 116, 115, 105, 100, 101, 46, 69, 85, 82]⟩, .int .i64 (-5)] := by kernel_rfl
theorem lit_row {w : World} {B : Nat} {v : Value} (h : w.ownsRow B 37 2 v (sortedKeys litD).length (legCells litD (sortedKeys litD))) :
    ∃ g cap, v = .slice (some ⟨g, 0, none⟩) 2 cap ∧ w.cell? ⟨g, 0, none⟩ = some (.string ⟨#[99, 108, 101, 97, 114, 105, 110, 103, 46, 69, 85, 82]⟩) ∧ w.cell? ⟨g, 1, none⟩ = some (.int .i64 5) ∧ g < w.heap.size := by
  rw [lit_keys, lit_cells] at h
  obtain ⟨g, cap, rfl, hB, hg⟩ := h.form (by simp)
  have c0 := h.cells (g := g) rfl 0 _ rfl
  have c1 := h.cells (g := g) rfl 1 _ rfl
  rw [add_at] at c0 c1
  exact ⟨g, cap, rfl, c0, c1, hg⟩

theorem lit_posts (w : World) : PostsAt ((w.alloc (.cells #[.string ⟨#[111, 117, 116, 115, 105, 100, 101, 46, 69, 85, 82]⟩, .int .i64 (-5), .string ⟨#[99, 108, 101, 97, 114, 105, 110, 103, 46, 69, 85, 82]⟩, .int .i64 5] 37)).alloc (.cells #[.string ⟨#[120]⟩, .int .i64 0, .string ⟨#[110]⟩, .slice (some ⟨w.heap.size, 0, none⟩) 2 2] 35)) (some ⟨w.heap.size + 1, 0, none⟩) 1 (litP (some ⟨w.heap.size, 0, none⟩)) := by
  have h1 := heap_alloc_new w (.cells #[.string ⟨#[111, 117, 116, 115, 105, 100, 101, 46, 69, 85, 82]⟩, .int .i64 (-5), .string ⟨#[99, 108, 101, 97, 114, 105, 110, 103, 46, 69, 85, 82]⟩, .int .i64 5] 37)
  have z1 : (w.alloc (.cells #[.string ⟨#[111, 117, 116, 115, 105, 100, 101, 46, 69, 85, 82]⟩, .int .i64 (-5), .string ⟨#[99, 108, 101, 97, 114, 105, 110, 103, 46, 69, 85, 82]⟩, .int .i64 5] 37)).heap.size = w.heap.size + 1 := by simp
  generalize w.alloc (.cells #[.string ⟨#[111, 117, 116, 115, 105, 100, 101, 46, 69, 85, 82]⟩, .int .i64 (-5), .string ⟨#[99, 108, 101, 97, 114, 105, 110, 103, 46, 69, 85, 82]⟩, .int .i64 5] 37) = w1 at *
  have h2 := heap_alloc_new w1 (.cells #[.string ⟨#[120]⟩, .int .i64 0, .string ⟨#[110]⟩, .slice (some ⟨w.heap.size, 0, none⟩) 2 2] 35)
  have h1' := ((Below.new w1 (.cells #[.string ⟨#[120]⟩, .int .i64 0, .string ⟨#[110]⟩, .slice (some ⟨w.heap.size, 0, none⟩) 2 2] 35)).block w.heap.size (by omega)).trans h1
  have z2 : (w1.alloc (.cells #[.string ⟨#[120]⟩, .int .i64 0, .string ⟨#[110]⟩, .slice (some ⟨w.heap.size, 0, none⟩) 2 2] 35)).heap.size = w.heap.size + 2 := by simp; omega
  rw [z1] at h2
  generalize w1.alloc (.cells #[.string ⟨#[120]⟩, .int .i64 0, .string ⟨#[110]⟩, .slice (some ⟨w.heap.size, 0, none⟩) 2 2] 35) = w2 at *
  intro _
  refine ⟨_, 0, rfl, by omega, fun i hi => ?_⟩
  obtain rfl : i = 0 := by omega
  refine ⟨⟨?_, ?_, ?_, ?_⟩, ⟨by show 1 ≤ 140737488351232; decide, by show 1 ≤ 140737488351232; decide, by show 2 ≤ 140737488351232; decide⟩, fun _ => ⟨_, 0, rfl, by omega, fun j hj => ?_⟩, fun _ a e => ?_⟩
  · unfold World.cell?; rw [h2]; rfl
  · unfold World.cell?; rw [h2]; rfl
  · unfold World.cell?; rw [h2]; rfl
  · unfold World.cell?; rw [h2]; rfl
  · have hj2 : j < 2 := hj
    rcases (show j = 0 ∨ j = 1 by omega) with rfl | rfl
    · refine ⟨?_, ?_, ⟨by show 11 ≤ 140737488351232; decide, by show (-9223372036854775808 : Int) ≤ -5; decide, by show (-5 : Int) ≤ 9223372036854775807; decide⟩⟩
      · unfold World.cell?; rw [h1']; rfl
      · unfold World.cell?; rw [h1']; rfl
    · refine ⟨?_, ?_, ⟨by show 12 ≤ 140737488351232; decide, by show (-9223372036854775808 : Int) ≤ 5; decide, by show (5 : Int) ≤ 9223372036854775807; decide⟩⟩
      · unfold World.cell?; rw [h1']; rfl
      · unfold World.cell?; rw [h1']; rfl
  · obtain rfl := Option.some.inj e
    show w.heap.size < _
    omega
theorem lit_postE (w : World) : PostsAt (w.alloc (.cells #[.string ⟨#[120]⟩, .int .i64 0, .string ⟨#[]⟩, .slice none 0 0] 35)) (some ⟨w.heap.size, 0, none⟩) 1 litE := by
  have h1 := heap_alloc_new w (.cells #[.string ⟨#[120]⟩, .int .i64 0, .string ⟨#[]⟩, .slice none 0 0] 35)
  have z1 : (w.alloc (.cells #[.string ⟨#[120]⟩, .int .i64 0, .string ⟨#[]⟩, .slice none 0 0] 35)).heap.size = w.heap.size + 1 := by simp
  generalize w.alloc (.cells #[.string ⟨#[120]⟩, .int .i64 0, .string ⟨#[]⟩, .slice none 0 0] 35) = w2 at *
  intro _
  refine ⟨_, 0, rfl, by omega, fun i hi => ?_⟩
  obtain rfl : i = 0 := by omega
  refine ⟨⟨?_, ?_, ?_, ?_⟩, ⟨by decide, by decide, by decide⟩, fun h => absurd h (by show ¬ 0 < 0; omega), fun h => absurd h (by show ¬ 0 < 0; omega)⟩
  · unfold World.cell?; rw [h1]; rfl
  · unfold World.cell?; rw [h1]; rfl
  · unfold World.cell?; rw [h1]; rfl
  · unfold World.cell?; rw [h1]; rfl

set_option maxRecDepth 100000 in
set_option maxHeartbeats 4000000 in
theorem lives_any (Bf : Nat → Addr) (w : World) (hE : Env w Bf) : Calls Tryz.prog 4 #[] w fun e w' => e = .returned (.bool true) ∧ Below w.heap.size w w' := by
  have HE := Lib.hid (fun w' (hb : Below w.heap.size w w') => hE.below hb)
  have hp := lit_posts w
  have hb1 := (Below.new w (.cells #[.string ⟨#[111, 117, 116, 115, 105, 100, 101, 46, 69, 85, 82]⟩, .int .i64 (-5), .string ⟨#[99, 108, 101, 97, 114, 105, 110, 103, 46, 69, 85, 82]⟩, .int .i64 5] 37)).trans ((Below.new _ (.cells #[.string ⟨#[120]⟩, .int .i64 0, .string ⟨#[110]⟩, .slice (some ⟨w.heap.size, 0, none⟩) 2 2] 35)).mono (by simp))
  have a1 := replay_any Bf _ 1 1 _ _ (HE.out _ hb1) hp (by omega)
  rw [lit_good] at a1
  have HB1 := Lib.hid hb1
  clear hE hp hb1
  go_enter Tryz.func4, Tryz.ntmps4
  go_wp2_with fail
  refine a1.mono ?_
  clear a1
  rintro e w1 ⟨hb, hr⟩
  obtain ⟨v, rfl, hrow⟩ : ∃ v, e = .returned (.tuple #[v, .nilIface]) ∧ w1.ownsRow _ 37 2 v (sortedKeys litD).length (legCells litD (sortedKeys litD)) := by
    rcases hr with ⟨_, v, h1, h2⟩ | ⟨h, _⟩ | ⟨h, _⟩
    · exact ⟨v, h1, h2⟩
    · cases h
    · cases h
  obtain ⟨g, cap, rfl, k0, k1, hg⟩ := lit_row hrow
  have hb1 := HB1.out.trans (hb.mono HB1.out.size)
  clear hr hrow hb HB1
  have hp := lit_postE w1
  have hb2 := Below.new w1 (.cells #[.string ⟨#[120]⟩, .int .i64 0, .string ⟨#[]⟩, .slice none 0 0] 35)
  have hb3 := hb1.trans (hb2.mono hb1.size)
  have a2 := replay_any Bf _ 1 1 _ _ (HE.out _ hb3) hp (by omega)
  rw [lit_bad] at a2
  have HB3 := Lib.hid hb3
  have HK := Lib.hid (fun w' (h : Below (w1.alloc (.cells #[.string ⟨#[120]⟩, .int .i64 0, .string ⟨#[]⟩, .slice none 0 0] 35)).heap.size (w1.alloc (.cells #[.string ⟨#[120]⟩, .int .i64 0, .string ⟨#[]⟩, .slice none 0 0] 35)) w') =>
    (show w'.cell? ⟨g, 0, none⟩ = some (.string ⟨#[99, 108, 101, 97, 114, 105, 110, 103, 46, 69, 85, 82]⟩) ∧ w'.cell? ⟨g, 1, none⟩ = some (.int .i64 5) from
      ⟨((hb2.trans (h.mono hb2.size)).cell (by exact hg)).trans k0, ((hb2.trans (h.mono hb2.size)).cell (by exact hg)).trans k1⟩))
  clear hp hb1 hb2 hb3 k0 k1
  go_wp2_with fail
  refine a2.mono ?_
  clear a2
  rintro e w2 ⟨hb, hr⟩
  obtain rfl : e = .returned (.tuple #[.slice none 0 0, .iface 135 (.pointer (some (Bf 0)))]) := by
    rcases hr with ⟨h, _⟩ | ⟨_, h⟩ | ⟨h, _⟩
    · cases h
    · exact h
    · cases h
  obtain ⟨k0, k1⟩ := HK.out _ hb
  have hb4 := HB3.out.trans (hb.mono HB3.out.size)
  have a3 := num_any Bf w2 (HE.out _ hb4) 24 (by omega)
  rw [show ev Bf 24 = .iface 135 (.pointer (some (Bf 0))) from rfl] at a3
  have HB4 := Lib.hid hb4
  clear hr hb hb4 HK HB3
  go_wp2_with fail
  refine a3.mono ?_
  rintro e w3 ⟨rfl, hb⟩
  have HB5 := Lib.hid (HB4.out.trans (hb.mono HB4.out.size))
  clear a3 hb
  go_wp2
  go_ret
  exact ⟨rfl, HB5.out⟩
end Go.Proofs.YtodekiimkbejnaaGreatDoor
