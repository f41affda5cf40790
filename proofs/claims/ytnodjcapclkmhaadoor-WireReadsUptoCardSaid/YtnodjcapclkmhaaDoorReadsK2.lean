/- reads at Upto, a float, a list; longest: walked; reads whole. -/
import Derived.Test.YtnodjcapclkmhaaDoorReadsK
import Derived.StillTailTactics
namespace Go.Proofs.YtnodjcapclkmhaaDoor
open Go.RowKit

set_option maxRecDepth 100000 in
set_option maxHeartbeats 1000000 in
theorem longest_any (A : Option Addr) (n c : Nat) (ss : Nat → ByteArray) (w : World) (hn : n < 9223372036854775807) (hz : ∀ i, i < n → (ss i).size < 9223372036854775807) (hA : Sl w A n (fun i => .string (ss i))) :
    Calls Tryd.prog 19 #[.slice A n c] w fun e w' => e = .returned (.int .i64 (lng ss n)) ∧ w = w' := by
  have HA := Lib.hid hA; have HZ := Lib.hid hz; clear hA hz
  go_enter Tryd.func19, Tryd.ntmps19
  go_wp2
  go_loop [3, 8, 5] (fun vx vi _ => ∃ k : Nat, vi = .int .i64 k ∧ k ≤ n ∧ vx = .int .i64 (lng ss k)) (fun _ i _ => n - (intOf i).toNat)
  case atStart => exact ⟨0, rfl, Nat.zero_le _, rfl⟩
  case round =>
    obtain ⟨k, rfl, hk, rfl⟩ := hrel
    by_cases h : k < n
    · obtain ⟨b, o, rfl, hbl, hc⟩ := HA.out (by omega)
      have e1 : w.cell? ⟨b, o + k, none⟩ = some (.string (ss k)) := hc k h
      have hx := HZ.out k h
      obtain ⟨x, hxe⟩ : ∃ x, x = ss k := ⟨_, rfl⟩
      obtain ⟨l, hle⟩ : ∃ l, l = lng ss k := ⟨_, rfl⟩
      have HM := Lib.hid (show lng ss (k + 1) = max l x.size by rw [hle, hxe]; rfl)
      rw [← hxe] at e1 hx
      rw [← hle]
      clear hc hxe hle
      go_wp2
      all_goals
        go_round
        case rel => exact ⟨k + 1, by go_num, by omega, by rw [HM.out]; first | rfl | (congr 1; (try split) <;> omega)⟩
        case measure => simp [intOf]; omega
    · obtain rfl : k = n := by omega
      go_wp2
      go_ret
      exact ⟨rfl, rfl⟩
theorem lng_at {ss : Nat → ByteArray} : ∀ n i, i < n → (ss i).size ≤ lng ss n
  | n + 1, i, h => by
    unfold lng
    rcases Nat.lt_or_ge i n with h1 | h1
    · have := lng_at (ss := ss) n i h1; omega
    · obtain rfl : i = n := by omega
      omega
theorem lng_le {ss : Nat → ByteArray} {m : Nat} : ∀ n, (∀ i, i < n → (ss i).size ≤ m) → lng ss n ≤ m
  | 0, _ => Nat.zero_le _
  | n + 1, h => by
    unfold lng
    have := lng_le (ss := ss) n (fun i hi => h i (by omega))
    have := h n (by omega)
    omega
set_option maxRecDepth 100000 in
set_option maxHeartbeats 2000000 in
theorem reads_8 (Bf : Nat → Addr) (B g : Nat) (s : ByteArray) (p : Nat) (o : OpV) (w : World) (hE : EnvB B w Bf) (hg : B ≤ g) (hR : Rdr w g s p) (hp : p ≤ s.size) (hs : s.size ≤ 4398046511104) (ho : o.Ok) (hk : o.k = 8) (hP : Pre s p (uvL o.u)) :
    Calls Tryd.prog 28 #[.pointer (some ⟨g, 0, none⟩), o.val] w (RdPost B g s (p + (uvL o.u).length) w) := by
  obtain ⟨k, sec, u, i, n, m, t, A, ln, lc, ss⟩ := o
  obtain ⟨hu, hi⟩ := ho
  simp only at hk hP hu hi ⊢
  subst hk
  unfold OpV.val
  simp only
  have hB := hE.lt
  have hgl := hR.cells.2.2.2
  have hb := Below.new w (.cells #[.int .i64 8, .bool sec, .int .u64 u, .int .i64 i, .int .i64 n, .int .i64 m, .string t, .slice A ln lc] 30)
  have HB0 := Lib.hid hb
  have HX := Lib.hid (box_cells w (.int .i64 8) (.bool sec) (.int .u64 u) (.int .i64 i) (.int .i64 n) (.int .i64 m) (.string t) (.slice A ln lc))
  have hB1 := hE.below (hb.mono hB)
  have hR1 := hR.below hb
  by_cases h63 : u ≤ 9223372036854775807
  · have a1 := rUpto_any Bf B g s p u _ hB1 hg hR1 hp (by omega) (by omega)
    rw [upG_read hP hu (Int.le_refl _)] at a1
    simp only [nV, uP] at a1
    have kw : wrap64 (u : Int) = u := by unfold wrap64; omega
    have kt : ¬ (9223372036854775807 : Int) < (u : Int) := by omega
    clear hb hE hR hB1 hR1 h63
    go_enter Tryd.func28, Tryd.ntmps28
    go_wp2_with fail
    refine a1.mono ?_
    rintro e w1 ⟨rfl, h1, h2⟩
    obtain ⟨x2, x3, x6, x7⟩ := box_kept HX.out h2 (by omega) (by simp)
    have H1 := Lib.hid h1; have H2 := Lib.hid (rd_below HB0.out h2 hB hg); clear h1 h2 a1
    go_wp2
    go_ret
    exact ⟨rfl, H1.out, H2.out⟩
  · have a1 := rUpto_any Bf B g s p 9223372036854775807 _ hB1 hg hR1 hp (by omega) (by omega)
    have hu3 : upG s p 9223372036854775807 = .error 3 := by
      unfold upG; rw [uG_read hP hu]; simp only []; rw [if_pos (by omega)]
    rw [hu3] at a1
    simp only [nV, uP] at a1
    rw [show ev Bf 3 = .iface 123 (.pointer (some (Bf 4))) from rfl] at a1
    have a3 := fun w hE => num_any Bf w hE 3 (by decide)
    rw [show ev Bf 3 = .iface 123 (.pointer (some (Bf 4))) from rfl] at a3
    have hur := Lib.hid (uG_read hP hu)
    have HE1 := Lib.hid hB1
    have kt : (9223372036854775807 : Int) < (u : Int) := by omega
    clear hb hE hR hB1 hR1 h63 hu3
    go_enter Tryd.func28, Tryd.ntmps28
    go_wp2_with fail
    refine a1.mono ?_
    rintro e w1 ⟨rfl, h1, h2⟩
    have a2 := rUint_any Bf B g s p w1 (HE1.out.wrote h2 hg (fun k hk => by cases hk)) hg h1 hp (by omega)
    rw [hur.out] at a2
    simp only [uV, uP] at a2
    have H2 := Lib.hid h2; clear h1 h2 a1
    go_wp2_with fail
    refine a2.mono ?_
    rintro e w2 ⟨rfl, h1, h2⟩
    have h3 := H2.out.trans h2
    have HE2 := Lib.hid (HE1.out.wrote h3 hg (fun k hk => by cases hk)).env
    have HB2 := Lib.hid (rd_below HB0.out h3 hB hg)
    obtain ⟨x2, x3, x6, x7⟩ := box_kept HX.out h3 (by omega) (by simp)
    have hlt2 : w.heap.size < w2.heap.size := World.block_lt_of_cell? w2 _ x2
    have H1 := Lib.hid h1; clear h1 h2 h3 a2
    go_wp2_with fail
    refine (a3 _ HE2.out).mono ?_
    rintro e w3 ⟨rfl, hb3⟩
    have y2 := (hb3.cell (p := ⟨w.heap.size, 2, none⟩) hlt2).trans x2
    have H3 := Lib.hid (H1.out.below hb3)
    have HB3 := Lib.hid (HB2.out.trans (hb3.mono (by omega)))
    clear hb3
    go_wp2
    go_ret
    exact ⟨rfl, H3.out, HB3.out⟩

set_option maxRecDepth 100000 in
set_option maxHeartbeats 2000000 in
theorem reads_5 (Bf : Nat → Addr) (B g : Nat) (s : ByteArray) (p : Nat) (o : OpV) (w : World) (hE : EnvB B w Bf) (hg : B ≤ g) (hR : Rdr w g s p) (hp : p ≤ s.size) (hs : s.size ≤ 4398046511104) (ho : o.Ok) (hk : o.k = 5) (hP : Pre s p (lowL (fbits (o.u % 4294967296)) 4)) :
    Calls Tryd.prog 28 #[.pointer (some ⟨g, 0, none⟩), o.val] w (RdPost B g s (p + (lowL (fbits (o.u % 4294967296)) 4).length) w) := by
  obtain ⟨k, sec, u, i, n, m, t, A, ln, lc, ss⟩ := o
  obtain ⟨hu, hi⟩ := ho
  simp only at hk hP hu hi ⊢
  subst hk
  unfold OpV.val
  simp only
  have hB := hE.lt
  have hgl := hR.cells.2.2.2
  have hb := Below.new w (.cells #[.int .i64 5, .bool sec, .int .u64 u, .int .i64 i, .int .i64 n, .int .i64 m, .string t, .slice A ln lc] 30)
  have HB0 := Lib.hid hb
  have HX := Lib.hid (box_cells w (.int .i64 5) (.bool sec) (.int .u64 u) (.int .i64 i) (.int .i64 n) (.int .i64 m) (.string t) (.slice A ln lc))
  have a1 := rFloat_any Bf B g s p _ (hE.below (hb.mono hB)) hg (hR.below hb) hp (by omega)
  rw [fG_read hP (by omega)] at a1
  simp only [fV, uP] at a1
  rw [lowL_length]
  have e1 : ((u % 4294967296 : Nat) : Int) = (u : Int) % 4294967296 := by omega
  have k1 : ∀ w, (callFunc 40 #[.int .u32 ((u : Int) % 4294967296)]).run Tryd.prog w = .ok (.value (.float .f32 (u % 4294967296))) w := fun w => by
    have := run_frombits ((u : Int) % 4294967296) w
    rwa [← e1, Int.toNat_natCast, e1] at this
  have k2 := ne_self (u % 4294967296)
  cases hn : nan32 (u % 4294967296) with
  | true =>
    have hf : fbits (u % 4294967296) = 2143289344 := by unfold fbits; rw [if_pos hn]
    rw [hf] at a1
    rw [hn] at k2
    have k3 : (FloatKind.f32.format.order 2143289344 2143289344 != some Ordering.eq) = true := (ne_self 2143289344).trans (by decide)
    clear hb hE hR hf hn e1 hP
    generalize u % 4294967296 = b at *
    go_enter Tryd.func28, Tryd.ntmps28
    go_wp2_with fail
    refine a1.mono ?_
    rintro e w1 ⟨rfl, h1, h2⟩
    obtain ⟨x2, x3, x6, x7⟩ := box_kept HX.out h2 (by omega) (by simp)
    have H1 := Lib.hid h1; have H2 := Lib.hid (rd_below HB0.out h2 hB hg); clear h1 h2 a1
    go_wp2
    go_ret
    exact ⟨rfl, H1.out, H2.out⟩
  | false =>
    have hf : fbits (u % 4294967296) = u % 4294967296 := by unfold fbits; rw [if_neg (by rw [hn]; decide)]
    rw [hf] at a1
    rw [hn] at k2
    have k4 := fun w => run_bits (u % 4294967296) w
    have hbe : (((u % 4294967296 : Nat) : Int) == (u : Int) % 4294967296) = true := by rw [e1]; exact beq_self_eq_true _
    clear hb hE hR hf hn hP
    rw [e1] at k4
    clear hbe e1
    generalize u % 4294967296 = b at *
    go_enter Tryd.func28, Tryd.ntmps28
    go_wp2_with fail
    refine a1.mono ?_
    rintro e w1 ⟨rfl, h1, h2⟩
    obtain ⟨x2, x3, x6, x7⟩ := box_kept HX.out h2 (by omega) (by simp)
    have H1 := Lib.hid h1; have H2 := Lib.hid (rd_below HB0.out h2 hB hg); clear h1 h2 a1
    go_wp2
    go_quiet (fail)
    go_wp2
    go_ret
    exact ⟨rfl, H1.out, below_drewN H2.out _⟩
end Go.Proofs.YtnodjcapclkmhaaDoor
