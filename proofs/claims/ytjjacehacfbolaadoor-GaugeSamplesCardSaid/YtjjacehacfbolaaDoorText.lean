/- Text, the program's and the document's. -/
import Derived.Test.YtjjacehacfbolaaDoorSample
import Derived.Test.YtjjacehacfbolaaDoorDouble
import Derived.Test.YtjjacehacfbolaaDoorShelf
import Derived.WalkSpells
import Derived.Laws.IdiomStrings
namespace Go.Proofs.YtjjacehacfbolaaDoor
open Go.RowKit Go.Sort

/-- The thousandths n as a text. -/
def txt (n : Nat) : List UInt8 := [UInt8.ofNat (48 + n / 1000), 46, UInt8.ofNat (48 + n / 100 % 10), UInt8.ofNat (48 + n / 10 % 10), UInt8.ofNat (48 + n % 10)]
/-- A health as a text. -/
def textOf (b : Nat) : ByteArray := if Rnd.good b = true then ⟨(txt (Rnd.T b)).toArray⟩ else ⟨#[63]⟩

theorem dec_small {d : Nat} (h : d < 10) : Lib.decDigits d = [UInt8.ofNat (48 + d)] := by
  unfold Lib.decDigits; rw [dif_pos h]
theorem itoa_thousand {k : Nat} (h : k < 1000) : Lib.itoa (1000 + (k : Int)) = [49, UInt8.ofNat (48 + k / 100), UInt8.ofNat (48 + k / 10 % 10), UInt8.ofNat (48 + k % 10)] := by
  unfold Lib.itoa
  rw [if_neg (by omega), show (1000 + (k : Int)).toNat = 1000 + k from by omega]
  unfold Lib.decDigits
  rw [dif_neg (by omega)]
  unfold Lib.decDigits
  rw [dif_neg (by omega)]
  unfold Lib.decDigits
  rw [dif_neg (by omega), dec_small (by omega)]
  rw [show (1000 + k) / 10 / 10 / 10 = 1 from by omega, show (1000 + k) / 10 / 10 % 10 = k / 100 from by omega, show (1000 + k) / 10 % 10 = k / 10 % 10 from by omega, show (1000 + k) % 10 = k % 10 from by omega]
  rfl

theorem ret_s {a b : ByteArray} (h : a = b) : Ending.returned (.string a) = .returned (.string b) := by rw [h]

set_option maxHeartbeats 1000000 in
theorem text_good (b : Nat) (w : World) (hg : Rnd.good b = true) (htab : Lib.TabIs Tryd.prog w "internal/strconv.uint64pow10" .u64 Lib.pow10Tab) :
    Calls Tryd.prog 8 #[.float .f32 b] w fun e w' => e = .returned (.string ⟨(txt (Rnd.T b)).toArray⟩) ∧ ∃ k os, w' = grow (w.drewN k) os := by
  obtain ⟨r, q, s1, s2, s3⟩ := text_steps hg
  have c1 : ∀ w, (convert 25 36 (.float .f32 b)).run Tryd.prog w = .ok (.float .f64 r) w := fun w => run_convert_float_float w 25 36 .f32 .f64 b r (by kernel_rfl) (by kernel_rfl) s1
  have c2 : ∀ w, (binOp .mul 36 (.float .f64 r) (.float .f64 4652007308841189376)).run Tryd.prog w = .ok (.float .f64 q) w := fun w => run_float_arith w .mul 36 .f64 r 4652007308841189376 q s2
  have c3 : ∀ w, (convert 36 3 (.float .f64 q)).run Tryd.prog w = .ok (.int .i64 (Rnd.T b)) w := fun w => run_convert_float_int w 36 3 .f64 .i64 q _ (by kernel_rfl) (by kernel_rfl) s3
  clear s1 s2 s3
  have hlt := Rnd.good_lt hg
  have hT := Rnd.T_le hg
  generalize Rnd.T b = N at *
  obtain ⟨d, hd⟩ : ∃ d : Nat, d = N / 1000 := ⟨_, rfl⟩
  obtain ⟨k, hk⟩ : ∃ k : Nat, k = N % 1000 := ⟨_, rfl⟩
  have cd : (N : Int) / 1000 = (d : Int) := by omega
  have ck : (N : Int) % 1000 = (k : Int) := by omega
  have k1 : (k : Int) ≤ 999 := by omega
  have d1 : (d : Int) ≤ 1 := by omega
  have HD := Lib.hid hd; clear hd
  have HK := Lib.hid hk; clear hk
  have TAB := Lib.hid htab; clear htab
  go_enter Tryd.func8, Tryd.ntmps8
  go_wp2_with (go_at_call 6; refine (good_any _ _ hlt).mono ?_; rintro e w' ⟨rfl, rfl⟩)
  refine (Tryd.strconv_Itoa_small d (by omega) _).mono ?_
  rintro e w' ⟨rfl, rfl⟩
  rw [dec_small (by omega)]
  go_wp2_with fail
  refine (Tryd.strconv_Itoa (1000 + (k : Int)) (by omega) (by omega) _ TAB.out).mono ?_
  rintro e w' ⟨rfl, kk, os, rfl⟩
  rw [itoa_thousand (by omega)]
  go_wp2
  go_ret
  refine ⟨ret_s ?_, kk, os, rfl⟩
  have h1 := HD.out
  have h2 := HK.out
  have e1 : txt N = [48 + UInt8.ofNat d, 46, 48 + UInt8.ofNat (k / 100), 48 + UInt8.ofNat (k / 10 % 10), 48 + UInt8.ofNat (k % 10)] := by
    unfold txt
    rw [show N / 100 % 10 = k / 100 from by omega, show N / 10 % 10 = k / 10 % 10 from by omega, show N % 10 = k % 10 from by omega, ← h1]
    simp [UInt8.ofNat_add]
  rw [e1]
  rfl

theorem text_bad (b : Nat) (w : World) (hb : b < 4294967296) (hg : Rnd.good b = false) :
    Calls Tryd.prog 8 #[.float .f32 b] w fun e w' => e = .returned (.string ⟨#[63]⟩) ∧ w = w' := by
  go_enter Tryd.func8, Tryd.ntmps8
  go_wp2_with (go_at_call 6; refine (good_any _ _ hb).mono ?_; rintro e w' ⟨rfl, rfl⟩)
  go_ret
  exact ⟨rfl, rfl⟩

theorem text_any (b : Nat) (w : World) (hb : b < 4294967296) (htab : Lib.TabIs Tryd.prog w "internal/strconv.uint64pow10" .u64 Lib.pow10Tab) :
    Calls Tryd.prog 8 #[.float .f32 b] w fun e w' => e = .returned (.string (textOf b)) ∧ ∃ k os, w' = grow (w.drewN k) os := by
  unfold textOf
  cases hg : Rnd.good b
  · rw [if_neg (by simp)]
    exact (text_bad b w hb hg).mono fun e w' ⟨he, hw⟩ => ⟨he, 0, #[], by rw [← hw]; simp [grow, World.drewN]⟩
  · rw [if_pos rfl]
    exact text_good b w hg htab

theorem T_of {m : Nat} {e : Int} {b : Nat} (he : -149 ≤ e) (he2 : e ≤ -23) (hX : Rnd.X m e = Rnd.A (Rnd.rung b)) : m * 1000 / 2 ^ (-e).toNat = Rnd.T b := by
  unfold Rnd.T
  rw [← hX]
  unfold Rnd.X
  have h176 : (2 : Nat) ^ 176 = 2 ^ (-e).toNat * 2 ^ (e + 176).toNat := by rw [← Nat.pow_add]; congr 1; omega
  rw [h176, Nat.mul_right_comm m, Nat.mul_div_mul_right _ _ (Nat.two_pow_pos _)]

theorem conv_txt (q : Nat) (wr : World) (hq : q ≤ 1000) :
    (convert 42 9 (.slice (some ⟨wr.heap.size, 0, none⟩) 5 5)).run Tryd.prog (wr.alloc (.cells #[.int .u8 (48 + (q : Int) / 1000), .int .u8 46, .int .u8 (48 + (q : Int) / 100 % 10), .int .u8 (48 + (q : Int) / 10 % 10), .int .u8 (48 + (q : Int) % 10)] 5)) =
      .ok (.string ⟨(txt q).toArray⟩) (wr.alloc (.cells #[.int .u8 (48 + (q : Int) / 1000), .int .u8 46, .int .u8 (48 + (q : Int) / 100 % 10), .int .u8 (48 + (q : Int) / 10 % 10), .int .u8 (48 + (q : Int) % 10)] 5)) := by
  have h8 : ∀ n : Nat, n < 256 → (((UInt8.ofNat n).toNat : Nat) : Int) = (n : Int) := fun n hn => by
    rw [UInt8.toNat_ofNat']
    omega
  refine run_convert_bytes_back (P := Tryd.prog) (wr.alloc _) 42 9 5 ⟨wr.heap.size, 0, none⟩ 5 (txt q) Tryd.underlying42 Tryd.underlying5 Tryd.underlying9 ?_
  intro j hj
  have hj5 : j < 5 := hj
  have hcell := fun i => cell_of_row (wr.alloc (.cells #[.int .u8 (48 + (q : Int) / 1000), .int .u8 46, .int .u8 (48 + (q : Int) / 100 % 10), .int .u8 (48 + (q : Int) / 10 % 10), .int .u8 (48 + (q : Int) % 10)] 5)) wr.heap.size i _ _ _ (heap_alloc_new wr _)
  have hadd : ∀ i, (⟨wr.heap.size, 0, none⟩ : Addr).add i = ⟨wr.heap.size, i, none⟩ := fun i => by unfold Addr.add; split <;> simp_all
  rw [hadd, hcell]
  match j, hj5 with
  | 0, _ =>
    show some (Value.int .u8 (48 + (q : Int) / 1000)) = some (.int .u8 (((UInt8.ofNat (48 + q / 1000)).toNat : Nat) : Int))
    rw [h8 _ (by omega)]; simp
  | 1, _ => rfl
  | 2, _ =>
    show some (Value.int .u8 (48 + (q : Int) / 100 % 10)) = some (.int .u8 (((UInt8.ofNat (48 + q / 100 % 10)).toNat : Nat) : Int))
    rw [h8 _ (by omega)]; simp
  | 3, _ =>
    show some (Value.int .u8 (48 + (q : Int) / 10 % 10)) = some (.int .u8 (((UInt8.ofNat (48 + q / 10 % 10)).toNat : Nat) : Int))
    rw [h8 _ (by omega)]; simp
  | 4, _ =>
    show some (Value.int .u8 (48 + (q : Int) % 10)) = some (.int .u8 (((UInt8.ofNat (48 + q % 10)).toNat : Nat) : Int))
    rw [h8 _ (by omega)]; simp

set_option maxRecDepth 100000 in
set_option maxHeartbeats 1000000 in
theorem rtext_good (b : Nat) (w : World) (hg : Rnd.good b = true) :
    Calls Tryd.prog 9 #[.int .u32 b] w fun e w' => e = .returned (.string ⟨(txt (Rnd.T b)).toArray⟩) ∧ Below w.heap.size w w' := by
  go_enter Tryd.func9, Tryd.ntmps9
  go_wp2_with (go_at_call 7; refine (rgood_any _ _).mono ?_; rintro e w' ⟨rfl, rfl⟩)
  refine (of_num b _ hg).mono ?_
  rintro r w1 ⟨m, e, rfl, hm, he, he2, hX, hbel⟩
  have mw : IntKind.u64.wrap ((m : Int) * 1000) = ((m * 1000 : Nat) : Int) := by rw [IntKind.wrap_u64]; omega
  have HM := Lib.hid hm; clear hm
  have HX := Lib.hid hX; clear hX
  have HB := Lib.hid hbel; clear hbel
  go_wp2_with fail
  have HT := Lib.hid (T_of he he2 HX.out)
  have T1 := Rnd.T_le hg
  obtain ⟨K, hK⟩ : ∃ K : Nat, e = -(K : Int) := ⟨(-e).toNat, by omega⟩
  subst hK
  rw [show (- -(K : Int)).toNat = K from by omega] at HT
  have hs1 := HB.out.size
  go_loopg [5] K (fun gk n wr => ∃ q : Nat, gk ≤ K ∧ n = .int .u64 q ∧ Hid (q = m * 1000 / 2 ^ (K - gk)) ∧ wr.cell? ⟨w1.heap.size, 1, none⟩ = some (.int .i64 (-(gk : Int))) ∧ wr.frozen? ⟨w1.heap.size, 1, none⟩ = false ∧ Below w.heap.size w wr ∧ w1.heap.size < wr.heap.size)
  case atStart => exact ⟨m * 1000, Nat.le_refl _, rfl, by show m * 1000 = _; rw [Nat.sub_self]; simp, by simp, by simp, HB.out.alloc hs1 _, by simp⟩
  case round =>
    obtain ⟨q, hgk, rfl, hq, hce, hfe, hbel, hsz⟩ := hrel
    have HBB := Lib.hid hbel; clear hbel
    by_cases h0 : gk = 0
    · subst h0
      have hqT : q = Rnd.T b := by rw [hq.out, Nat.sub_zero]; exact HT.out
      have q1 : (q : Int) ≤ 1000 := by omega
      have hcv := conv_txt q wr (by omega)
      have HQT := Lib.hid hqT; clear hqT
      go_wp2
      go_ret
      exact ⟨by rw [← HQT.out]; rfl, HBB.out.alloc (by omega) _⟩
    · have g1 : (1 : Int) ≤ (gk : Int) := by omega
      have g2 : (gk : Int) ≤ 149 := by omega
      have q2 : (q : Int) ≤ 16777215000 := by
        have h1 : q ≤ m * 1000 := by rw [hq.out]; exact Nat.div_le_self _ _
        have h2 := HM.out
        omega
      go_wp2
      go_roundg (gk - 1)
      case rel =>
        refine ⟨q / 2, by omega, by simp, ?_, ?_, by simp [hfe], HBB.out.setCell (by omega) _, by simpa using hsz⟩
        · show q / 2 = _
          rw [hq.out, Nat.div_div_eq_div_mul, ← Nat.pow_succ, show (K - gk).succ = K - (gk - 1) from by omega]
        · have : (wr.setCell ⟨w1.heap.size, 1, none⟩ (.int .i64 (-(gk : Int) + 1))).cell? ⟨w1.heap.size, 1, none⟩ = some (.int .i64 (-(gk : Int) + 1)) := World.cell?_setCell_same _ _ _ hce
          rw [this]; congr 2; omega
      case measure => omega

theorem rtext_any (b : Nat) (w : World) :
    Calls Tryd.prog 9 #[.int .u32 b] w fun e w' => e = .returned (.string (textOf b)) ∧ Below w.heap.size w w' := by
  unfold textOf
  cases hg : Rnd.good b
  · rw [if_neg (by simp)]
    go_enter Tryd.func9, Tryd.ntmps9
    go_wp2_with (go_at_call 7; refine (rgood_any _ _).mono ?_; rintro e w' ⟨rfl, rfl⟩)
    go_ret
    exact ⟨rfl, Below.refl _ _⟩
  · rw [if_pos rfl]
    exact rtext_good b w hg
end Go.Proofs.YtjjacehacfbolaaDoor
