/- The law's fixed facts: walked. -/
import Derived.Test.YtnodjcapclkmhaaDoorReader
namespace Go.Proofs.YtnodjcapclkmhaaDoor
open Go.RowKit

theorem Buf.below {w w' : World} {B g : Nat} {t e : TypeId} {xs : List Int} {r : Option Nat} (h : Buf w B g t e xs r) (hb : Below w.heap.size w w') : Buf w' B g t e xs r := by
  have hl := h.lt.2.1
  obtain ⟨v, h1, h2, h3, h4, h5⟩ := h
  exact ⟨v, (hb.block g hl).trans h1, h2, ownsB_below h3 hb, h4, h5⟩
theorem Rdr.below {w w' : World} {g : Nat} {s : ByteArray} {p : Nat} (h : Rdr w g s p) (hb : Below w.heap.size w w') : Rdr w' g s p := (hb.block g h.cells.2.2.2).trans h
theorem Wrote.of_below {w w' : World} (h : Below w.heap.size w w') (g : Nat) (r : Option Nat) : Wrote w w' g r r := ⟨h.os, h.tape, h.output, h.size, fun k hk _ _ => h.block k hk, .inl rfl⟩
theorem Below.new (w : World) (o : Obj) : Below w.heap.size w (w.alloc o) := (Below.refl _ _).alloc (Nat.le_refl _) o

def fixS : Nat → ByteArray := fun i => if i = 0 then ⟨#[]⟩ else ⟨#[97]⟩
theorem fix_out : strOfNums ([] ++ uvL 300 ++ uvL (zig (-2)) ++ lowL (fbits 1065353216) 4 ++ textsL fixS 2) = { data := #[172, 2, 3, 0, 0, 128, 63, 2, 0, 1, 97] } := by
  have u300 : uvL 300 = [172, 2] := by rw [uvL_more (by decide), uvL_last (by decide)]; rfl
  have u3 : uvL (zig (-2)) = [3] := by rw [show zig (-2) = 3 from rfl, uvL_last (by decide)]; rfl
  have l4 : lowL (fbits 1065353216) 4 = [0, 0, 128, 63] := by decide
  have t2 : textsL fixS 2 = [2, 0, 1, 97] := by
    show uvL 2 ++ (([] ++ (uvL 0 ++ nums ⟨#[]⟩)) ++ (uvL 1 ++ nums ⟨#[97]⟩)) = _
    rw [uvL_last (by decide), uvL_last (by decide), uvL_last (by decide)]
    rfl
  rw [u300, u3, l4, t2]
  rfl
theorem fix_len : ([] ++ uvL 300 ++ uvL (zig (-2)) ++ lowL (fbits 1065353216) 4 ++ textsL fixS 2).length = 11 := by
  have := congrArg ByteArray.size fix_out
  rw [strOfNums_size] at this
  exact this
theorem fix_uint : uG { data := #[128, 0] } 0 0 0 = .error 2 := by
  rw [uG_at _ _ _ _ (by decide)]
  rw [if_neg (by decide), if_neg (by decide), uG_at _ _ _ _ (by decide), if_neg (by decide), if_pos (by decide), if_pos (by decide)]

theorem fix_txs {w : World} {g : Nat} {r : Option Nat} (hg : g < w.heap.size) (hr : ∀ k, r = some k → k < w.heap.size) :
    Txs (w.alloc (.cells #[.string { data := #[] }, .string { data := #[97] }] 9)) (some ⟨w.heap.size, 0, none⟩) 2 fixS g r := by
  intro _
  refine ⟨_, _, rfl, by simp, by omega, fun e => by have := hr _ e.symm; omega, fun i hi => ?_⟩
  obtain rfl | rfl : i = 0 ∨ i = 1 := by omega
  all_goals (unfold World.cell?; rw [heap_alloc_new]; rfl)

set_option maxRecDepth 100000 in
set_option maxHeartbeats 2000000 in
theorem fixed_fact (B : Nat → Addr) (w : World) (hE : Env w B) : Calls Tryd.prog 9 #[] w fun e w' => e = .returned (.bool true) ∧ Below w.heap.size w w' := by
  have HE := Lib.hid hE.base; clear hE
  have hfo := fix_out
  have hfl := fix_len
  have hll : ([] ++ uvL 300 ++ uvL (zig (-2)) ++ lowL (fbits 1065353216) 4 ++ textsL fixS 2).length ≤ 140737488355328 := by rw [hfl]; decide
  have hl3 : ([] ++ uvL 300 ++ uvL (zig (-2)) ++ lowL (fbits 1065353216) 4).length ≤ 140737488355328 := by rw [List.length_append] at hll; omega
  have hl2 : ([] ++ uvL 300 ++ uvL (zig (-2))).length + 4 ≤ 140737488355328 := by rw [List.length_append, lowL_length] at hl3; exact hl3
  have hl1 : ([] ++ uvL 300).length ≤ 140737488355328 := by rw [List.length_append] at hl2; omega
  have HFO := Lib.hid hfo; have HFL := Lib.hid hfl; have HLL := Lib.hid hll; have HL2 := Lib.hid hl2; have HL1 := Lib.hid hl1
  have hl2' : ([] ++ uvL 300 ++ uvL (zig (-2))).length ≤ 140737488355328 := by omega
  have HL2' := Lib.hid hl2'
  clear hfo hfl hll hl3 hl2 hl1 hl2'
  go_enter Tryd.func9, Tryd.ntmps9
  go_wp2_with fail
  refine (new_any _).mono ?_
  rintro e w' ⟨rfl, rfl⟩
  have hW0 := Lib.hid (new_buf w w.heap.size 71 5 (Nat.le_refl _))
  have HB0 := Lib.hid ((Below.refl w.heap.size w).alloc (Nat.le_refl _) (.cells #[.slice none 0 0] 71))
  generalize w.alloc (.cells #[.slice none 0 0] 71) = w0 at *
  go_wp2_with fail
  refine (uint_any _ _ _ _ 300 _ hW0.out (by decide) HL1.out).mono ?_
  rintro e w1 ⟨rfl, r1, h1, h2⟩
  have H1 := Lib.hid h1; have W1 := Lib.hid h2; clear h1 h2
  go_wp2_with fail
  refine (int_any _ _ _ _ (-2) _ H1.out (by decide) HL2'.out).mono ?_
  rintro e w2 ⟨rfl, r2, h1, h2⟩
  have H2 := Lib.hid h1; have W2 := Lib.hid (W1.out.trans h2); clear h1 h2
  go_wp2_with fail
  refine (float_any _ _ _ _ 1065353216 _ H2.out (by decide) HL2.out).mono ?_
  rintro e w3 ⟨rfl, r3, h1, h2⟩
  have H3 := Lib.hid h1; have W3 := Lib.hid (W2.out.trans h2); clear h1 h2
  go_wp2_with fail
  have ha := Below.new w3 (.cells #[.string { data := #[] }, .string { data := #[97] }] 9)
  have hlt := H3.out.lt
  refine (texts_any _ _ _ _ _ 2 2 fixS _ (H3.out.below ha) (fix_txs hlt.2.1 (fun k h => (hlt.2.2 k h).2)) (by decide) HLL.out).mono ?_
  rintro e w4 ⟨rfl, r4, h1, h2⟩
  have H4 := Lib.hid h1
  have HB4 := Lib.hid (HB0.out.trans (((W3.out.trans (Wrote.of_below ha _ _)).trans h2).below HB0.out.size (Nat.le_refl _) (fun k h => by cases h)))
  clear h1 h2 ha hlt
  go_wp2_with fail
  have o1 := out_any _ _ _ _ _ H4.out
  rw [HFO.out] at o1
  refine o1.mono ?_
  rintro e w' ⟨rfl, rfl⟩
  go_wp2_with fail
  have o2 := len_any _ _ _ _ _ H4.out
  rw [HFL.out] at o2
  refine o2.mono ?_
  rintro e w' ⟨rfl, rfl⟩
  clear o1 o2
  go_wp2_with fail
  refine (read_any _ _).mono ?_
  rintro e w' ⟨rfl, rfl⟩
  have hR := Lib.hid (new_rdr w4 { data := #[128, 0] })
  have HB5 := Lib.hid (HB4.out.trans ((Below.new w4 (.cells #[.string { data := #[128, 0] }, .int .i64 0] 85)).mono HB4.out.size))
  have hgz := HB4.out.size
  generalize w4.alloc (.cells #[.string { data := #[128, 0] }, .int .i64 0] 85) = w5 at *
  go_wp2_with fail
  have u1 := rUint_any B w.heap.size w4.heap.size { data := #[128, 0] } 0 w5 (HE.out.below HB5.out) hgz hR.out (by decide) (by decide)
  rw [fix_uint] at u1
  refine u1.mono ?_
  rintro e w6 ⟨rfl, h1, h2⟩
  have H6 := Lib.hid (show Rdr w6 w4.heap.size { data := #[128, 0] } 0 from h1)
  have HB6 := Lib.hid (HB5.out.trans (h2.below HB5.out.size hgz (fun k h => by cases h)))
  clear u1 h1 h2
  unfold uV
  go_wp2_with fail
  refine (num_any B _ (HE.out.below HB6.out).env 2 (by decide)).mono ?_
  rintro e w7 ⟨rfl, hb7⟩
  have H7 := Lib.hid (H6.out.below hb7)
  have HB7 := Lib.hid (HB6.out.trans (hb7.mono HB6.out.size))
  clear hb7
  go_wp2_with fail
  refine (at_any _ _ _ _ H7.out).mono ?_
  rintro e w' ⟨rfl, rfl⟩
  go_wp2_with fail
  refine (left_any _ _ _ _ H7.out (by decide) (by decide)).mono ?_
  rintro e w8 ⟨rfl, n8, rfl⟩
  go_wp2_with fail
  have hb8 := below_drewN HB7.out n8
  have d1 := done_any B _ _ _ _ (HE.out.below hb8).env (H7.out.drewN n8) (by decide) (by decide)
  rw [show doneE { data := #[128, 0] } 0 = 5 from rfl] at d1
  refine d1.mono ?_
  rintro e w9 ⟨rfl, n9, rfl⟩
  have hb9 := below_drewN HB7.out (n8 + n9)
  clear d1
  go_wp2_with fail
  refine (num_any B _ (HE.out.below hb9).env 5 (by decide)).mono ?_
  rintro e w10 ⟨rfl, hb10⟩
  have HB10 := Lib.hid (hb9.trans (hb10.mono hb9.size))
  clear hb8 hb9 hb10
  go_wp2
  go_ret
  exact ⟨rfl, HB10.out⟩
end Go.Proofs.YtnodjcapclkmhaaDoor
