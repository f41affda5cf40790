/- Lists that are handed in with spare room: Mark, Word, SpareTexts: walked. -/
import Derived.Test.YtnodjcapclkmhaaDoorRef
import Derived.Deep.RegionWith
namespace Go.Proofs.YtnodjcapclkmhaaDoor
open Go.RowKit
/-- The mark's inner number. -/
def mark0 (i j : Int) : Int := IntKind.u64.wrap (IntKind.u64.wrap (IntKind.u64.wrap (wrap64 (i + 1)) * 11400714819323198485) + IntKind.u64.wrap (IntKind.u64.wrap (wrap64 (j + 1)) * 13787848793156543929))
def markI (i j : Int) : Int := wrap64 (wrap64 (IntKind.u64.wrap (bits BinOp.xor IntKind.u64 (mark0 i j) (mark0 i j / 536870912) * 10723151780598845931) / 8589934592) + 1)
set_option maxRecDepth 100000 in
theorem mark_any (i j : Int) (w : World) : Calls Tryd.prog 66 #[.int .i64 i, .int .i64 j] w fun e w' => e = .returned (.int .i64 (markI i j)) ∧ w' = w := by
  unfold markI mark0
  go_enter Tryd.func66, Tryd.ntmps66
  go_wp2
  go_ret
  exact ⟨rfl, rfl⟩
theorem conv4 (w : World) (a b c d : Int) : (convert 26 9 (.slice (some ⟨w.heap.size, 0, none⟩) 4 4)).run Tryd.prog (w.alloc (.cells #[.int .u8 a, .int .u8 b, .int .u8 c, .int .u8 d] 5)) = .ok (.string (strOfNums [a, b, c, d])) (w.alloc (.cells #[.int .u8 a, .int .u8 b, .int .u8 c, .int .u8 d] 5)) := by
  refine run_convert_bytes_arg _ 26 5 (by kernel_rfl) (by kernel_rfl) _ _ 4 4 [a, b, c, d] rfl ?_ 9 (by kernel_rfl)
  intro i hi
  obtain rfl | rfl | rfl | rfl : i = 0 ∨ i = 1 ∨ i = 2 ∨ i = 3 := by omega
  all_goals (unfold World.cell?; rw [heap_alloc_new]; rfl)

/-- The word of list i at place j. -/
def wordS (i j : Int) : ByteArray := strOfNums [markI i j % 256, markI i j / 256 % 256, markI i j / 65536 % 256, markI i j / 16777216 % 256]
theorem wordS_size (i j : Int) : (wordS i j).size = 4 := strOfNums_size _
set_option maxRecDepth 100000 in
theorem word_any (i j : Int) (w : World) : Calls Tryd.prog 45 #[.int .i64 i, .int .i64 j] w fun e w' => e = .returned (.string (wordS i j)) ∧ Below w.heap.size w w' := by
  have a1 := mark_any i j
  unfold wordS
  generalize markI i j = m at *
  have kc := conv4
  go_enter Tryd.func45, Tryd.ntmps45
  go_wp2_with fail
  refine (a1 _).mono ?_
  rintro e w' ⟨rfl, rfl⟩
  go_wp2
  go_ret
  exact ⟨rfl, (Below.refl _ _).alloc (Nat.le_refl _) _⟩

theorem info9 : (Tryd.prog.info? 9).map (fun i => (i.zero, i.size, i.bytes)) = some (some (.string ⟨#[]⟩), 1, 16) := by kernel_rfl

/-- Texts as cells. -/
def txs (ss : Nat → ByteArray) : Nat → List Value
  | 0 => []
  | k + 1 => txs ss k ++ [.string (ss k)]
theorem txs_length (ss : Nat → ByteArray) : ∀ n, (txs ss n).length = n
  | 0 => rfl
  | n + 1 => by unfold txs; rw [List.length_append, txs_length ss n]; rfl
theorem txs_at (ss : Nat → ByteArray) : ∀ n i, i < n → (txs ss n)[i]? = some (.string (ss i))
  | n + 1, i, h => by
    unfold txs
    by_cases e : i < n
    · rw [List.getElem?_append_left (by rw [txs_length]; exact e)]; exact txs_at ss n i e
    · obtain rfl : i = n := by omega
      rw [List.getElem?_append_right (by rw [txs_length]; exact Nat.le_refl _), txs_length, Nat.sub_self]; rfl
theorem txs_one (ss : Nat → ByteArray) : ∀ n, ∀ u ∈ txs ss n, u.oneCell' = true
  | 0, u, h => by cases h
  | n + 1, u, h => by
    unfold txs at h
    rcases List.mem_append.1 h with h | h
    · exact txs_one ss n u h
    · obtain rfl := List.mem_singleton.1 h; rfl
/-- The list b with the words behind it. -/
def spare (ss : Nat → ByteArray) (n : Nat) (i : Nat) : ByteArray := if i < n then ss i else wordS 7 ((i - n : Nat) : Int)
theorem txs_spare (ss : Nat → ByteArray) (n : Nat) : ∀ k, k ≤ n → txs (spare ss n) k = txs ss k
  | 0, _ => rfl
  | k + 1, h => by
    unfold txs
    rw [txs_spare ss n k (by omega)]
    unfold spare; rw [if_pos (by omega)]

/-- A slice of texts, beside what is said of nil. -/
def Tv (w : World) (A : Option Addr) (n c : Nat) (ss : Nat → ByteArray) : Prop := (A = none → n = 0 ∧ c = 0) ∧ Sl w A n (fun i => .string (ss i))

set_option maxRecDepth 100000 in
set_option maxHeartbeats 1000000 in
theorem spare_any (A : Option Addr) (n c : Nat) (ss : Nat → ByteArray) (w : World) (hA : Tv w A n c ss) (hn : n ≤ 4000000000) :
    Calls Tryd.prog 14 #[.slice A n c] w fun e w' => e = .returned (.tuple #[.slice (some ⟨w.heap.size, 0, none⟩) n (n + 80), .slice (some ⟨w.heap.size, 0, none⟩) (n + 80) (n + 80)]) ∧
      w'.ownsRow w.heap.size 9 1 (.slice (some ⟨w.heap.size, 0, none⟩) (n + 80) (n + 80)) (n + 80) (txs (spare ss n) (n + 80)) ∧ Below w.heap.size w w' := by
  obtain ⟨i0, hi0, hz0, hz1, hz2⟩ := info_parts info9
  have HA := Lib.hid hA; clear hA
  have H0 := Lib.hid hi0; have HZ0 := Lib.hid hz0; have HZ1 := Lib.hid hz1; have HZ2 := Lib.hid hz2
  clear hi0 hz0 hz1 hz2
  go_enter Tryd.func14, Tryd.ntmps14
  go_wp2_with (refine wpList_make_own _ rfl _ _ 28 rfl w.heap.size 9 i0 (.string ⟨#[]⟩) 1 Tryd.underlying28 H0.out HZ0.out HZ1.out .i64 .i64 ((n : Int) + 80) (n + 80) rfl rfl (by omega) (by rw [HZ2.out]; omega) (by unfold maxLen; omega) (Nat.le_refl _) ?_)
  intro w1 ho hg
  have hb1 : Below w.heap.size w w1 := ⟨hg.os, hg.tape, hg.output, hg.size, fun k hk => hg.block k hk (by simp)⟩
  have hnews : ∀ ad, A = some ad → ∀ j u, (txs ss n)[j]? = some u → w1.cell? (ad.add j) = some u := by
    intro ad had j u hj
    have hjn : j < n := by
      have := (List.getElem?_eq_some_iff.1 hj).1
      rwa [txs_length] at this
    obtain ⟨b, o, hab, hb, hc⟩ := HA.out.2 (by omega)
    rw [had] at hab
    obtain rfl := Option.some.inj hab
    have e0 : (⟨b, o, none⟩ : Addr).add j = ⟨b, o + j, none⟩ := by unfold Addr.add; split <;> simp_all
    rw [e0, hb1.cell (by exact hb), hc j hjn]
    rw [txs_at ss n j hjn] at hj
    exact hj
  have HO := Lib.hid ho; have HG := Lib.hid hg; have HN := Lib.hid hnews; have HB1 := Lib.hid hb1; clear ho hg hnews hb1
  go_wp2_with (first | (at_builtin; refine wpList_append_fits_any _ rfl _ _ 28 rfl w.heap.size 9 i0 1 Tryd.underlying28 H0.out HZ1.out w.heap.size 0 (n + 80) [] rfl HO.out A n c (txs ss n) rfl ?c1 HA.out.1 HN.out (txs_one ss n) ?c2 ?_))
  case c1 => rw [txs_length, Nat.mul_one]
  case c2 => omega
  intro w2 ho2 hg2
  have hl0 : w.heap.size ≤ w.heap.size := Nat.le_refl _
  have HB2 := Lib.hid (HB1.out.trans ((Below.refl w.heap.size w1).grown hg2 HB1.out.size (fun k hk => by rw [← Option.some.inj hk]; exact Nat.le_refl _)))
  have ho3 : w2.ownsRow w.heap.size 9 1 (.slice (some ⟨w.heap.size, 0, none⟩) (n + 0) (n + 80)) (n + 0) (txs (spare ss n) (n + 0)) := by
    rw [Nat.add_zero, txs_spare ss n n (Nat.le_refl _)]
    simpa using ho2
  have HO3 := Lib.hid ho3; clear ho2 hg2 ho3
  go_wp2_with fail
  go_loopw [4, 5] (fun s i wr => ∃ k : Nat, s = .slice (some ⟨w.heap.size, 0, none⟩) (n + k) (n + 80) ∧ i = .int .i64 k ∧ k ≤ 80 ∧ Hid (wr.ownsRow w.heap.size 9 1 (.slice (some ⟨w.heap.size, 0, none⟩) (n + k) (n + 80)) (n + k) (txs (spare ss n) (n + k)) ∧ Below w.heap.size w wr)) (fun _ i _ => 80 - (intOf i).toNat)
  case atStart => first | exact ⟨0, rfl, rfl, by omega, HO3.out, HB2.out⟩ | exact ⟨0, by simp, rfl, by omega, HO3.out, HB2.out⟩
  case round =>
    obtain ⟨k, rfl, rfl, hk, hh⟩ := hrel
    have hsz := hh.out.2.size
    cases t : decide ((k : Int) < 80) with
    | true =>
      have t' := of_decide_eq_true t
      have a1 := word_any 7 k wr
      go_wp2_with fail
      refine a1.mono ?_
      rintro e w3 ⟨rfl, hb3⟩
      have hb3' := hh.out.2.trans (hb3.mono hsz)
      have hown : w3.ownsRow w.heap.size 9 1 (.slice (some ⟨w.heap.size, 0, none⟩) (n + k) (n + 80)) (n + k) (txs (spare ss n) (n + k)) :=
        World.ownsRow.kept (row := none) hh.out.1 ⟨hb3.os, hb3.tape, hb3.output, hb3.size, fun i hi _ => hb3.block i hi⟩ (.inr (by simp [Value.ownBlock]))
      have HB3 := Lib.hid hb3'; have HOW := Lib.hid hown; clear hb3 hb3' hown
      go_wp2_with (first | (at_builtin; refine wpList_append_fits _ rfl _ _ 28 rfl w.heap.size 9 i0 1 Tryd.underlying28 H0.out HZ1.out w.heap.size (n + k) (n + 80) _ rfl (HOW.out.alloc _) ⟨w3.heap.size, 0, none⟩ 1 1 [.string (wordS 7 k)] rfl rfl (cell_one_new w3 _ 9) ?d1 ?d2 ?_))
      case d1 => intro u hu; simp at hu; subst hu; rfl
      case d2 => omega
      intro w4 ho4 hg4
      have hsz3 := HB3.out.size
      have HB4 := Lib.hid ((HB3.out.alloc HB3.out.size _).grown hg4 (by simp; omega) (fun j hj => by rw [← Option.some.inj hj]; exact Nat.le_refl _))
      have ho5 : w4.ownsRow w.heap.size 9 1 (.slice (some ⟨w.heap.size, 0, none⟩) (n + (k + 1)) (n + 80)) (n + (k + 1)) (txs (spare ss n) (n + (k + 1))) := by
        have e1 : txs (spare ss n) (n + (k + 1)) = txs (spare ss n) (n + k) ++ [.string (wordS 7 k)] := by
          show txs (spare ss n) (n + k) ++ [.string (spare ss n (n + k))] = _
          unfold spare; rw [if_neg (by omega), Nat.add_sub_cancel_left]
        rw [e1]; exact ho4
      have HO5 := Lib.hid ho5; clear ho4 hg4 ho5
      go_wp2
      go_roundw
      case rel => exact ⟨k + 1, by rfl, by go_num, by omega, HO5.out, HB4.out⟩
      case measure => simp [intOf]; omega
    | false =>
      have t' := of_decide_eq_false t
      obtain rfl : k = 80 := by omega
      go_wp2
      go_ret2
      exact ⟨rfl, hh.out.1, hh.out.2⟩

theorem below_drewN {B : Nat} {a w : World} (h : Below B a w) (n : Nat) : Below B a (w.drewN n) := ⟨h.os, h.tape, h.output, h.size, h.block⟩
set_option maxRecDepth 100000 in
set_option maxHeartbeats 1000000 in
/-- KeptTexts: the whole is still what SpareTexts made of b. -/
theorem kept_any (g : Nat) (A : Option Addr) (n c : Nat) (ss : Nat → ByteArray) (w : World) (hn : n ≤ 4000000000) (hg : g < w.heap.size) (hF : ∀ i, i < n + 80 → w.cell? ⟨g, i, none⟩ = some (.string (spare ss n i))) (hA : Sl w A n (fun i => .string (ss i))) :
    Calls Tryd.prog 16 #[.slice (some ⟨g, 0, none⟩) (n + 80) (n + 80), .slice A n c] w fun e w' => e = .returned (.bool true) ∧ Below w.heap.size w w' := by
  have HF := Lib.hid hF; have HA := Lib.hid hA; clear hF hA
  go_enter Tryd.func16, Tryd.ntmps16
  go_wp2
  go_loopw [5, 15] (fun _ i wr => ∃ k : Nat, i = .int .i64 k ∧ k ≤ n ∧ Hid (Below w.heap.size w wr)) (fun _ i _ => n - (intOf i).toNat)
  case atStart => exact ⟨0, rfl, Nat.zero_le _, Below.refl _ _⟩
  case round =>
    obtain ⟨k, rfl, hk, hb⟩ := hrel
    by_cases h : k < n
    · obtain ⟨b, o, rfl, hbl, hc⟩ := HA.out (by omega)
      have e1 : wr.cell? ⟨b, o + k, none⟩ = some (.string (ss k)) := (hb.out.cell (by exact hbl)).trans (hc k h)
      have e2 : wr.cell? ⟨g, k, none⟩ = some (.string (ss k)) := by
        rw [hb.out.cell (by exact hg), HF.out k (by omega)]
        unfold spare; rw [if_pos h]
      have HC := Lib.hid hc; clear hc
      go_wp2
      go_quiet (fail)
      go_wp2
      go_roundw
      case rel => exact ⟨k + 1, by go_num, by omega, below_drewN hb.out _⟩
      case measure => simp [intOf]; omega
    · obtain rfl : k = n := by omega
      go_wp2_with fail
      go_loopw [6] (fun i wr => ∃ j : Nat, i = .int .i64 j ∧ j ≤ 80 ∧ Hid (Below w.heap.size w wr)) (fun i _ => 80 - (intOf i).toNat)
      case atStart => exact ⟨0, rfl, by omega, hb.out⟩
      case round =>
        obtain ⟨j, rfl, hj, hb⟩ := hrel
        have hsz := hb.out.size
        cases t : decide ((j : Int) < 80) with
        | true =>
          have t' := of_decide_eq_true t
          have e2 : wr.cell? ⟨g, k + j, none⟩ = some (.string (wordS 7 j)) := by
            rw [hb.out.cell (by exact hg), HF.out (k + j) (by omega)]
            unfold spare; rw [if_neg (by omega), Nat.add_sub_cancel_left]
          have a1 := Lib.hid (word_any 7 j wr.drew)
          have hgw : g < wr.heap.size := by omega
          have hwr : IntKind.i64.wrap ((k : Int) + (j : Int)) = ((k + j : Nat) : Int) := by rw [IntKind.wrap_i64]; omega
          have hlt1 : ((k + j : Nat) : Int) < ((k + 80 : Nat) : Int) := by omega
          have hlt2 : k + j < k + 80 := by omega
          generalize wordS 7 j = x at *
          go_wp2_with fail
          go_region_with (go_at_call 45; refine a1.out.mono ?_; rintro e w3 ⟨rfl, hb3⟩; have k2 := (hb3.cell (p := ⟨g, k + j, none⟩) (by exact hgw)).trans e2)
          all_goals
            have HB3 := Lib.hid (hb.out.trans (Below.mono (Below.trans (b := wr.drew) ⟨rfl, rfl, rfl, Nat.le_refl _, fun _ _ => rfl⟩ hb3) (show w.heap.size ≤ wr.drew.heap.size from hsz)))
            clear hb3
            go_wp2
            go_roundw
            case rel => exact ⟨j + 1, by go_num, by omega, HB3.out⟩
            case measure => simp [intOf]; omega
        | false =>
          go_wp2
          go_ret
          exact ⟨rfl, hb.out⟩
end Go.Proofs.YtnodjcapclkmhaaDoor
