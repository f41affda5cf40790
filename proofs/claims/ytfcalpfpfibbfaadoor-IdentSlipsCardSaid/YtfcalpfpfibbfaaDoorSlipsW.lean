/- remitlaw05.slips: walked: the list holds slips of the text alone. -/
import Derived.Test.YtfcalpfpfibbfaaDoorSlipsP
import Derived.Test.YtfcalpfpfibbfaaDoorOrderW
import Derived.Deep.Cut
import Derived.Deep.AppendLies
import Derived.Deep.RegionLaw
import Derived.BigRegion
import Derived.IntWalk
namespace Go.Proofs.YtfcalpfpfibbfaaDoor
open Go.RowKit Go.Sort

theorem info9 : (Tryd.prog.info? 9).map (fun i => (i.zero, i.size, i.bytes)) = some (some (.string ⟨#[]⟩), 1, 16) := by kernel_rfl
/-- v is a list of the texts L of its own, from base on. -/
def ownsT (w : World) (base : Nat) (v : Value) (L : List ByteArray) : Prop := w.ownsRow base 9 1 v L.length (L.map Value.string)
def oneS (s : ByteArray) (k : Nat) (d : Nat) : ByteArray := s.extract 0 k ++ strOfNums [(d : Int)] ++ s.extract (k + 1) s.size
def twoS (s : ByteArray) (k : Nat) : ByteArray := s.extract 0 k ++ strOfNums [(byt s (k + 1) : Int), (byt s k : Int)] ++ s.extract (k + 2) s.size
theorem byt_mid {a m z : ByteArray} {i : Nat} : byt (a ++ m ++ z) i = if i < a.size then byt a i else if i < a.size + m.size then byt m (i - a.size) else byt z (i - (a.size + m.size)) := by
  by_cases h1 : i < a.size
  · rw [if_pos h1, byt_app_left (by rw [ByteArray.size_append]; omega), byt_app_left h1]
  · rw [if_neg h1]
    by_cases h2 : i < a.size + m.size
    · rw [if_pos h2, byt_app_left (by rw [ByteArray.size_append]; omega), byt_app_right (by omega)]
    · rw [if_neg h2, byt_app_right (by rw [ByteArray.size_append]; omega), ByteArray.size_append]
theorem one_slipS {s : ByteArray} {k d : Nat} (hk : k < s.size) (h1 : dig (byt s k) = true) (h2 : dig d = true) (hne : d ≠ byt s k) : Slip s (oneS s k d) := by
  have z0 : (s.extract 0 k).size = k := by rw [ext_size _ _ _ (by omega)]; omega
  have z1 : (strOfNums [(d : Int)]).size = 1 := strOfNums_size _
  have z2 : (s.extract (k + 1) s.size).size = s.size - (k + 1) := ext_size _ _ _ (Nat.le_refl _)
  have hd := dig_two h2
  have e : ∀ i, byt (oneS s k d) i = if i < k then byt (s.extract 0 k) i else if i < k + 1 then byt (strOfNums [(d : Int)]) (i - k) else byt (s.extract (k + 1) s.size) (i - (k + 1)) := by
    intro i; unfold oneS; rw [byt_mid, z0, z1]
  have ek : byt (oneS s k d) k = d := by
    rw [e, if_neg (by omega), if_pos (by omega), Nat.sub_self, byt_nums (xs := [(d : Int)]) (i := 0) (Nat.zero_lt_succ _)]
    simp; omega
  refine ⟨by unfold oneS; rw [ByteArray.size_append, ByteArray.size_append, z0, z1, z2]; omega, k, hk, h1, .inl ⟨by rw [ek]; exact h2, by rw [ek]; exact hne, fun j hj => ?_⟩⟩
  rw [e]
  by_cases h : j < k
  · rw [if_pos h, byt_extract (by omega) (by omega), Nat.zero_add]
  · rw [if_neg h, if_neg (by omega)]
    rcases Nat.lt_or_ge j s.size with h3 | h3
    · rw [byt_extract (by omega) (by omega)]; congr 1; omega
    · unfold byt; rw [dif_neg (by omega), dif_neg (by omega)]
theorem two_slipS {s : ByteArray} {k : Nat} (hk : k + 1 < s.size) (h1 : dig (byt s k) = true) (h2 : dig (byt s (k + 1)) = true) (hne : byt s k ≠ byt s (k + 1)) : Slip s (twoS s k) := by
  have z0 : (s.extract 0 k).size = k := by rw [ext_size _ _ _ (by omega)]; omega
  have z1 : (strOfNums [(byt s (k + 1) : Int), (byt s k : Int)]).size = 2 := strOfNums_size _
  have z2 : (s.extract (k + 2) s.size).size = s.size - (k + 2) := ext_size _ _ _ (Nat.le_refl _)
  have hb1 := byt_lt s k
  have hb2 := byt_lt s (k + 1)
  have e : ∀ i, byt (twoS s k) i = if i < k then byt (s.extract 0 k) i else if i < k + 2 then byt (strOfNums [(byt s (k + 1) : Int), (byt s k : Int)]) (i - k) else byt (s.extract (k + 2) s.size) (i - (k + 2)) := by
    intro i; unfold twoS; rw [byt_mid, z0, z1]
  have ek : byt (twoS s k) k = byt s (k + 1) := by
    rw [e, if_neg (by omega), if_pos (by omega), Nat.sub_self, byt_nums (xs := [(byt s (k + 1) : Int), (byt s k : Int)]) (i := 0) (Nat.zero_lt_succ _)]
    simp; omega
  have ek1 : byt (twoS s k) (k + 1) = byt s k := by
    rw [e, if_neg (by omega), if_pos (by omega), show k + 1 - k = 1 by omega, byt_nums (xs := [(byt s (k + 1) : Int), (byt s k : Int)]) (i := 1) (by exact Nat.lt_succ_self 1)]
    simp; omega
  refine ⟨by unfold twoS; rw [ByteArray.size_append, ByteArray.size_append, z0, z1, z2]; omega, k, by omega, h1, .inr ⟨hk, h2, hne, ek, ek1, fun j hj hj1 => ?_⟩⟩
  rw [e]
  by_cases h : j < k
  · rw [if_pos h, byt_extract (by omega) (by omega), Nat.zero_add]
  · rw [if_neg h, if_neg (by omega)]
    rcases Nat.lt_or_ge j s.size with h3 | h3
    · rw [byt_extract (by omega) (by omega)]; congr 1; omega
    · unfold byt; rw [dif_neg (by omega), dif_neg (by omega)]

section
variable {w : World} {ops : Array Oper} {o : Oper} {a : Act} {K : Act → World → Prop} {Q : Exit → Act → World → Prop} {E : Prop}
theorem step_txt (hgd : o.guard = none) (s x : Operand) (ho : o.op = .call { callee := .builtin .append, args := #[s, x], argTypes := #[49, 49] })
    (base : Nat) (v : Value) (L : List ByteArray) (hs : a.eval s = v) (hown : ownsT w base v L) (h : Nat) (b : ByteArray) (hx : a.eval x = .slice (some ⟨h, 0, none⟩) 1 1) (hb : w.heap[h]? = some (.cells #[.string b] 9 (0, 0)))
    (hlen : L.length ≤ 1) (hbase : base ≤ w.heap.size)
    (hk : ∀ g cap w', ownsT w' base (.slice (some ⟨g, 0, none⟩) (L.length + 1) cap) (L ++ [b]) → w.grownBy w' v.ownBlock → K (a.put o.dst (.slice (some ⟨g, 0, none⟩) (L.length + 1) cap)) w') :
    if Region.wanted o (yielded ops a.tmps) = true then Oper.wp Tryd.prog o a w K Q else E := by
  obtain ⟨i0, hi0, hz0, hz1, hz2⟩ := info_parts info9
  refine step_append_lies _ hgd s x 49 ho base 9 i0 (.string ⟨#[]⟩) 1 16 Tryd.underlying49 hi0 hz0 hz1 hz2 rfl (by decide) v L.length (L.map Value.string) hs hown ⟨h, 0, none⟩ 1 1 [.string b] hx rfl (World.news_of_block hb) ?_ (by omega) ?_ (by omega) hbase _ rfl ?_
  · intro u hu; simp at hu; subst hu; rfl
  · unfold maxLen; omega
  · intro g cap w' h1 hg _ _
    refine hk g cap w' ?_ hg
    unfold ownsT
    simpa using h1
end
theorem conv1d (w : World) (g : Nat) (hg : w.heap.size = g) (x : Int) : (convert 35 9 (.slice (some ⟨g, 0, none⟩) 1 1)).run Tryd.prog (w.alloc (.cells #[.int .u8 x] 5)).drew = .ok (.string (strOfNums [x])) (w.alloc (.cells #[.int .u8 x] 5)).drew := by
  subst hg
  refine run_convert_bytes_arg _ 35 5 (by kernel_rfl) (by kernel_rfl) _ _ 1 1 [x] rfl ?_ 9 (by kernel_rfl)
  intro i hi
  obtain rfl : i = 0 := by omega
  show (w.alloc (.cells #[.int .u8 x] 5)).cell? _ = _
  unfold World.cell?; rw [heap_alloc_new]; rfl
theorem conv2d (w : World) (g : Nat) (hg : w.heap.size = g) (x y : Int) : (convert 35 9 (.slice (some ⟨g, 0, none⟩) 2 2)).run Tryd.prog (w.alloc (.cells #[.int .u8 x, .int .u8 y] 5)).drew = .ok (.string (strOfNums [x, y])) (w.alloc (.cells #[.int .u8 x, .int .u8 y] 5)).drew := by
  subst hg
  refine run_convert_bytes_arg _ 35 5 (by kernel_rfl) (by kernel_rfl) _ _ 2 2 [x, y] rfl ?_ 9 (by kernel_rfl)
  intro i hi
  obtain rfl | rfl : i = 0 ∨ i = 1 := by omega
  all_goals (show (w.alloc (.cells #[.int .u8 x, .int .u8 y] 5)).cell? _ = _; unfold World.cell?; rw [heap_alloc_new]; rfl)
theorem new_at (w : World) (o : Obj) (g : Nat) (h : w.heap.size = g) : (w.alloc o).heap[g]? = some o := by subst h; exact heap_alloc_new w o
theorem ownsT.two {w : World} {base : Nat} {v : Value} {L : List ByteArray} (h : ownsT w base v L) (o1 o2 : Obj) : ownsT ((w.alloc o1).alloc o2).drew base v L := World.ownsRow.kept h ⟨rfl, rfl, rfl, by simp [World.drew]; omega, fun k hk _ => by
  show ((w.alloc o1).alloc o2).heap[k]? = _
  rw [(((Below.refl w.heap.size w).alloc (Nat.le_refl _) o1).alloc (by simp) o2).block k hk]⟩ (row := none) (by cases v.ownBlock <;> simp)

theorem below_grown2 {B : Nat} {w wc w2 : World} {b : Option Nat} {o1 o2 : Obj} (h : Below B w wc) (hB : B ≤ wc.heap.size) (hg : ((wc.alloc o1).alloc o2).drew.grownBy w2 b) (hb : ∀ k, b = some k → B ≤ k) : Below B w w2 := by
  have h2 : Below B wc ((wc.alloc o1).alloc o2) := ((Below.refl _ _).alloc hB o1).alloc (by simp; omega) o2
  have hs : wc.heap.size ≤ ((wc.alloc o1).alloc o2).drew.heap.size := by simp [World.drew]; omega
  refine h.trans ⟨hg.os.trans h2.os, hg.tape.trans h2.tape, hg.output.trans h2.output, Nat.le_trans hs hg.size, fun k hk => ?_⟩
  exact (hg.block k (by omega) (fun e => by have := hb k e.symm; omega)).trans (h2.block k hk)
theorem ownsT.form {w : World} {b : Nat} {v : Value} {L : List ByteArray} (h : ownsT w b v L) : ∃ A c, v = .slice A L.length c := by
  rcases h.2 with ⟨rfl, h0⟩ | ⟨g, cap, cur, rfl, _⟩
  · exact ⟨none, 0, by rw [h0]⟩
  · exact ⟨some ⟨g, 0, none⟩, cap, rfl⟩

/-- What slips leaves: a list of its own that holds slips alone. -/
def SlPost (s : ByteArray) (w : World) (e : Ending) (w' : World) : Prop := ∃ L v, e = .returned v ∧ (∀ t ∈ L, Slip s t) ∧ L.length ≤ 2 ∧ ownsT w' w.heap.size v L ∧ Below w.heap.size w w'
theorem SlPost.mk {s : ByteArray} {w : World} {e : Ending} {w' : World} {L : List ByteArray} {v : Value} (he : e = .returned v) (hL : ∀ t ∈ L, Slip s t) (hl : L.length ≤ 2) (ho : ownsT w' w.heap.size v L) (hb : Below w.heap.size w w') : SlPost s w e w' := ⟨L, v, he, hL, hl, ho, hb⟩

set_option maxRecDepth 100000 in
set_option maxHeartbeats 2000000 in
theorem slips_any (s : ByteArray) (i : Int) (d : Nat) (w : World) (hs : s.size ≤ 9223372036854770000) :
    Calls Tryd.prog 27 #[.string s, .int .i64 i, .int .u8 d] w (SlPost s w) := by
  by_cases h0 : i < 0
  · have hown0 : ownsT (w.alloc (.cells #[] 9)) w.heap.size (.slice (some ⟨w.heap.size, 0, none⟩) 0 0) [] := ⟨rfl, .inr ⟨w.heap.size, 0, #[], rfl, Nat.le_refl _, heap_alloc_new w _, by simp⟩⟩
    have HO0 := Lib.hid hown0; clear hown0
    go_enter Tryd.func27, Tryd.ntmps27
    go_wp2
    go_ret
    exact SlPost.mk (L := []) rfl (by simp) (by simp) HO0.out ((Below.refl _ _).alloc (Nat.le_refl _) _)
  · obtain ⟨k, rfl⟩ : ∃ k : Nat, i = k := ⟨i.toNat, by omega⟩
    by_cases hk : k < s.size
    · have hb : byt s k = s[k].toNat := by unfold byt; rw [dif_pos hk]
      cases hd : dig (byt s k) with
      | false =>
        rw [hb] at hd
        have hk5 : ¬ (k : Int) < 0 := by omega
        have hk3 : ¬ (s.size : Int) ≤ (k : Int) := by omega
        have hown0 : ownsT (w.alloc (.cells #[] 9)) w.heap.size (.slice (some ⟨w.heap.size, 0, none⟩) 0 0) [] := ⟨rfl, .inr ⟨w.heap.size, 0, #[], rfl, Nat.le_refl _, heap_alloc_new w _, by simp⟩⟩
        have HO0 := Lib.hid hown0; clear hown0
        go_enter Tryd.func27, Tryd.ntmps27
        go_wp2_with (go_at_call 45; refine (ldigit_any _ _).mono ?_; rintro e w' ⟨rfl, rfl⟩)
        go_ret
        exact SlPost.mk (L := []) rfl (by simp) (by simp) HO0.out ((Below.refl _ _).alloc (Nat.le_refl _) _)
      | true =>
        have hd2 := hd
        rw [hb] at hd2
        have HK := Lib.hid hd; clear hd
        have hk3 : decide (s.size ≤ k) = false := by simp; omega
        have hk4 : ¬ s.size ≤ k := by omega
        have hk5 : ¬ (k : Int) < 0 := by omega
        have hu8 := byt_lt s k
        rw [hb] at hu8
        have hz : (w.alloc (.cells #[] 9)).heap.size = w.heap.size + 1 := by simp
        have hown0 : ownsT (w.alloc (.cells #[] 9)) w.heap.size (.slice (some ⟨w.heap.size, 0, none⟩) 0 0) [] := ⟨rfl, .inr ⟨w.heap.size, 0, #[], rfl, Nat.le_refl _, heap_alloc_new w _, by simp⟩⟩
        have HB0 := Lib.hid (show Below w.heap.size w (w.alloc (.cells #[] 9)) from (Below.refl _ _).alloc (Nat.le_refl _) _)
        have HO0 := Lib.hid hown0; clear hown0
        go_enter Tryd.func27, Tryd.ntmps27
        go_upto_region 4 with (go_at_call 45; refine (ldigit_any _ _).mono ?_; rintro e w' ⟨rfl, rfl⟩)
        generalize w.alloc (.cells #[] 9) = w1 at *
        go_cut [33] from 25 (fun v wx => (∃ b : Bool, v = .bool b ∧ Hid (b = true → dig d = true ∧ d ≠ byt s k)) ∧ wx = w1)
        case first =>
          cases hD : dig d with
          | false =>
            go_wp2_with (go_at_call 45; refine (ldigit_any _ _).mono ?_; rintro e w' ⟨rfl, rfl⟩)
            go_meet
            exact ⟨⟨false, rfl, Lib.hid (by simp)⟩, rfl⟩
          | true =>
            cases hE : ((d : Int) != (s[k].toNat : Int)) with
            | false =>
              go_wp2_with (go_at_call 45; refine (ldigit_any _ _).mono ?_; rintro e w' ⟨rfl, rfl⟩)
              go_meet
              exact ⟨⟨false, rfl, Lib.hid (by simp)⟩, rfl⟩
            | true =>
              have HN := Lib.hid (show d ≠ byt s k by rw [hb]; intro e; subst e; simp at hE)
              go_wp2_with (go_at_call 45; refine (ldigit_any _ _).mono ?_; rintro e w' ⟨rfl, rfl⟩)
              go_meet
              exact ⟨⟨true, rfl, Lib.hid (fun _ => ⟨hD, HN.out⟩)⟩, rfl⟩
        case rest =>
          obtain ⟨⟨b, rfl, F⟩, rfl⟩ := hcut
          go_upto_if 33 with fail
          go_cut [7] from 34 (fun v wx => ∃ L : List ByteArray, (∀ t ∈ L, Slip s t) ∧ L.length ≤ 1 ∧ Hid (ownsT wx w.heap.size v L ∧ Below w.heap.size w wx))
          case first =>
            cases b with
            | false =>
              go_wp2
              go_meet
              exact ⟨[], by simp, by simp, Lib.hid ⟨HO0.out, HB0.out⟩⟩
            | true =>
              have hown := HO0.out
              go_upto_region 5 with fail
              have kc := conv1d wc _ hz d
              have hk6 : k ≤ s.size := by omega
              have hk7 : k + 1 ≤ s.size := by omega
              have hk8 : IntKind.i64.wrap ((k : Int) + 1) = (k : Int) + 1 := IntWalk.i64_in _ (by omega)
              have ksz : (strOfNums [(d : Int)]).size = 1 := strOfNums_size _
              have ksb : ¬ 9223372036854775807 < k + 1 := by omega
              have ksb2 : ¬ 9223372036854775807 < s.size := by omega
              have hk9 : (0 : Int) ≤ (k : Int) + 1 := by omega
              have hk10 : (k : Int) + 1 ≤ (s.size : Int) := by omega
              go_region_law (refine step_txt rfl _ _ rfl w.heap.size _ [] (by rfl) (hown.two _ _) (w.heap.size + 2) _ (by rfl) (new_at _ _ _ (by simp [hz])) (by simp) (by simp [hz]; omega) ?_; intro g2 cap2 w2 ho2 hgr2)
              have hlt2 := World.ownsRow.lt hown
              have HB2 := Lib.hid (below_grown2 HB0.out (by omega) hgr2 (fun k hk => (hlt2 k hk).1))
              have HO2 := Lib.hid ho2
              clear ho2 hgr2 hlt2 hown
              go_wp2
              go_meet
              exact ⟨[oneS s k d], by intro t ht; obtain rfl := List.mem_singleton.1 ht; exact one_slipS hk HK.out (F.out (by trivial)).1 (F.out (by trivial)).2, by simp, Lib.hid ⟨HO2.out, HB2.out⟩⟩
          case rest =>
            obtain ⟨L, hL, hl1, hh⟩ := hcut
            obtain ⟨A, c, rfl⟩ := ownsT.form hh.out.1
            have HL := Lib.hid hL
            clear hL hk3 hk4 hz HB0 HO0 F hk5
            go_upto_region 6 with fail
            go_cut [70] from 49 (fun v wx => (∃ b : Bool, v = .bool b ∧ Hid (b = true → k + 1 < s.size ∧ dig (byt s (k + 1)) = true ∧ byt s k ≠ byt s (k + 1))) ∧ ∃ n, wx = wc.drewN n)
            case first =>
              by_cases h2 : k + 1 < s.size
              · have hb1 : byt s (k + 1) = s[k + 1].toNat := by unfold byt; rw [dif_pos h2]
                have h2' : (k : Int) + 1 < (s.size : Int) := by omega
                have hk9 : (0 : Int) ≤ (k : Int) + 1 := by omega
                have ht1 : ((k : Int) + 1).toNat = k + 1 := by omega
                have hk8 : IntKind.i64.wrap ((k : Int) + 1) = (k : Int) + 1 := IntWalk.i64_in _ (by omega)
                cases hD : dig s[k + 1].toNat with
                | false =>
                  have hD2 := fun w => ldigit_any s[k + 1].toNat w
                  rw [hD] at hD2
                  go_quiet ((go_at_call 45; exact Calls.quiet_of_same (hD2 _)))
                  go_wp2
                  go_meet
                  exact ⟨⟨false, rfl, Lib.hid (by simp)⟩, _, rfl⟩
                | true =>
                  have HD := Lib.hid (show dig (byt s (k + 1)) = true by rw [hb1]; exact hD)
                  have hD2 := fun w => ldigit_any s[k + 1].toNat w
                  rw [hD] at hD2
                  cases hE : ((s[k].toNat : Int) != (s[k + 1].toNat : Int)) with
                  | false =>
                    go_quiet ((go_at_call 45; exact Calls.quiet_of_same (hD2 _)))
                    go_wp2
                    go_meet
                    exact ⟨⟨false, rfl, Lib.hid (by simp)⟩, _, rfl⟩
                  | true =>
                    have HN := Lib.hid (show byt s k ≠ byt s (k + 1) by rw [hb, hb1]; intro e; rw [e] at hE; simp at hE)
                    go_quiet ((go_at_call 45; exact Calls.quiet_of_same (hD2 _)))
                    go_wp2
                    go_meet
                    exact ⟨⟨true, rfl, Lib.hid (fun _ => ⟨h2, HD.out, HN.out⟩)⟩, _, rfl⟩
              · have h2' : ¬ (k : Int) + 1 < (s.size : Int) := by omega
                have hk9 : (0 : Int) ≤ (k : Int) + 1 := by omega
                have hk8 : IntKind.i64.wrap ((k : Int) + 1) = (k : Int) + 1 := IntWalk.i64_in _ (by omega)
                have h2d : decide ((k : Int) + 1 < (s.size : Int)) = false := by simp; omega
                go_quiet (fail)
                go_wp2
                go_meet
                exact ⟨⟨false, rfl, Lib.hid (by simp)⟩, _, rfl⟩
            case rest =>
              obtain ⟨⟨b2, rfl, F2⟩, n, rfl⟩ := hcut
              have h3 := Lib.hid (show ownsT (wc.drewN n) w.heap.size (.slice A L.length c) L ∧ Below w.heap.size w (wc.drewN n) from ⟨hh.out.1, below_drewN hh.out.2 n⟩)
              clear hh
              generalize wc.drewN n = w4 at *
              go_upto_if 70 with fail
              cases b2 with
              | false =>
                go_wp2
                go_ret
                exact SlPost.mk rfl HL.out (by omega) h3.out.1 h3.out.2
              | true =>
                obtain ⟨f1, f2, f3⟩ := F2.out (by trivial)
                have F3 := Lib.hid (two_slipS f1 HK.out f2 f3)
                have hb1 : byt s (k + 1) = s[k + 1].toNat := by unfold byt; rw [dif_pos f1]
                have hbs : twoS s k = s.extract 0 k ++ strOfNums [(s[k + 1].toNat : Int), (s[k].toNat : Int)] ++ s.extract (k + 2) s.size := by unfold twoS; rw [hb1, hb]
                have HS := Lib.hid hbs
                have hsz := h3.out.2.size
                have hown := h3.out.1
                have hu8b := byt_lt s (k + 1)
                rw [hb1] at hu8b
                have kc := conv2d w4 _ rfl (s[k + 1].toNat : Int) (s[k].toNat : Int)
                have hk6 : k ≤ s.size := by omega
                have hk7 : k + 2 ≤ s.size := by omega
                have hk8 : IntKind.i64.wrap ((k : Int) + 1) = (k : Int) + 1 := IntWalk.i64_in _ (by omega)
                have hk9 : IntKind.i64.wrap ((k : Int) + 2) = (k : Int) + 2 := IntWalk.i64_in _ (by omega)
                have ksz : (strOfNums [(s[k + 1].toNat : Int), (s[k].toNat : Int)]).size = 2 := strOfNums_size _
                have ksb : ¬ 9223372036854775807 < k + 2 := by omega
                have ksb2 : ¬ 9223372036854775807 < s.size := by omega
                have hk10 : (0 : Int) ≤ (k : Int) + 1 := by omega
                have hk11 : (k : Int) + 1 < (s.size : Int) := by omega
                have ht2 : ((k : Int) + 2).toNat = k + 2 := by omega
                have hk12 : (0 : Int) ≤ (k : Int) + 2 := by omega
                have hk13 : (k : Int) + 2 ≤ (s.size : Int) := by omega
                clear F2 f2 f3 hbs hb1
                go_upto_region 7 with fail
                go_region_law (refine step_txt rfl _ _ rfl w.heap.size _ L (by rfl) (hown.two _ _) (w4.heap.size + 1) _ (by rfl) (new_at _ _ _ (by simp)) hl1 (by simp; omega) ?_; intro g2 cap2 w2 ho2 hgr2)
                all_goals
                  have hlt2 := World.ownsRow.lt hown
                  have HB2 := Lib.hid (below_grown2 h3.out.2 hsz hgr2 (fun k hk => (hlt2 k hk).1))
                  have HO2 := Lib.hid ho2
                  clear ho2 hgr2 hlt2 hown
                  try go_wp2
                  go_ret
                  exact SlPost.mk (L := L ++ [twoS s k]) rfl (fun t ht => by
                    rcases List.mem_append.1 ht with h | h
                    · exact HL.out t h
                    · obtain rfl := List.mem_singleton.1 h; exact F3.out) (by simp; omega) (by rw [HS.out]; have := HO2.out; simpa using this) HB2.out
    · have h1 : ¬ (k : Int) < 0 := by omega
      have h2 : (s.size : Int) ≤ (k : Int) := by omega
      have hown0 : ownsT (w.alloc (.cells #[] 9)) w.heap.size (.slice (some ⟨w.heap.size, 0, none⟩) 0 0) [] := ⟨rfl, .inr ⟨w.heap.size, 0, #[], rfl, Nat.le_refl _, heap_alloc_new w _, by simp⟩⟩
      have HO0 := Lib.hid hown0; clear hown0
      go_enter Tryd.func27, Tryd.ntmps27
      go_wp2
      go_ret
      exact SlPost.mk (L := []) rfl (by simp) (by simp) HO0.out ((Below.refl _ _).alloc (Nat.le_refl _) _)
end Go.Proofs.YtfcalpfpfibbfaaDoor
