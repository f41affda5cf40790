/- IdentOrder, walked. -/
import Derived.Test.YtfcalpfpfibbfaaDoorOrderP
import Derived.Deep.Cut
namespace Go.Proofs.YtfcalpfpfibbfaaDoor
open Go.RowKit Go.Sort

theorem tok_three (B : Nat → Addr) (m : Int) : (ev B (tokE m) = .iface 105 (.pointer (some (B 1))) ∧ m < 1) ∨ (ev B (tokE m) = .iface 105 (.pointer (some (B 1))) ∧ 1 ≤ m ∧ 999999999999 < m) ∨ (ev B (tokE m) = .nilIface ∧ 1 ≤ m ∧ m ≤ 999999999999) := by
  unfold tokE tokOk
  rcases (show m < 1 ∨ (1 ≤ m ∧ 999999999999 < m) ∨ (1 ≤ m ∧ m ≤ 999999999999) by omega) with h | h | h
  · exact .inl ⟨by rw [decide_eq_false (by omega)]; rfl, h⟩
  · exact .inr (.inl ⟨by rw [decide_eq_false (show ¬ m ≤ 999999999999 by omega), Bool.and_false]; rfl, h⟩)
  · exact .inr (.inr ⟨by rw [decide_eq_true h.1, decide_eq_true h.2]; rfl, h⟩)

theorem sys_size_le {k : Int} {s : ByteArray} (h : sys k s ≠ ⟨#[]⟩) : (sys k s).size ≤ 12 := by
  obtain ⟨c1, p, hp, e1⟩ := sys_cases h
  rw [e1, ByteArray.size_append, cod_size c1]
  have : p.size ≤ 9 := by rcases pre_cases hp with ⟨_, e⟩ | ⟨_, e⟩ | ⟨_, e⟩ | ⟨_, e⟩ <;> rw [e] <;> decide
  omega
theorem beq_list {a b : ByteArray} : (a.toList == b.toList) = decide (a = b) := by
  rw [Bool.eq_iff_iff, beq_iff_eq, decide_eq_true_eq]
  exact ⟨toList_inj, fun h => by rw [h]⟩

theorem same_eql (w : World) (a : Addr) : (binOp .eql 24 (.iface 105 (.pointer (some a))) (.iface 105 (.pointer (some a)))).run Tryd.prog w = .ok (.bool true) w := by
  obtain ⟨i, hi, hc⟩ := Option.map_eq_some_iff.1 info105
  obtain ⟨j, hj, _⟩ := Option.map_eq_some_iff.1 info107
  simp only [binOp]
  simp [Op.equal, Op.maxDepth, run_equalIn_iface_ptr_same w 9998 a Tryd.underlying24 Tryd.underlying105 hi hc hj]
set_option maxRecDepth 100000 in
set_option maxHeartbeats 1000000 in
theorem check_form (B : Nat → Addr) (s : ByteArray) (w : World) (hE : Env3 w B) (hs : s.size ≤ 9223372036854770000) (h4n : 4 ≤ s.size) (h1 : prt (s.extract 0 2) (s.extract 4 s.size) = false) :
    Calls Tryd.prog 15 #[.string s] w fun e w' => e = .returned (.iface 105 (.pointer (some (B 0)))) ∧ ∃ n, w' = w.drewN n := by
  have c0 := hE.cell 0 (by decide)
  have h4 : decide ((s.size : Int) < 4) = false := by simp; omega
  have h4' : (4 : Int) ≤ (s.size : Int) := by omega
  have z1 := ext_size s 0 2 (by omega)
  have z2 := ext_size s 2 4 (by omega)
  have z3 := ext_size s 4 s.size (by omega)
  have a1 := fun w => parts_any (s.extract 0 2) (s.extract 4 s.size) w (by omega) (by omega)
  rw [h1] at a1
  have HE := Lib.hid hE; clear hE
  go_enter Tryd.func15, Tryd.ntmps15
  go_wp2
  go_quiet ((go_at_call 28; exact Calls.quiet_of_same (a1 _)))
  go_wp2
  go_ret
  exact ⟨rfl, _, rfl⟩
theorem sys_prt {k : Int} {s : ByteArray} (h : sys k s ≠ ⟨#[]⟩) : 4 ≤ (sys k s).size ∧ prt ((sys k s).extract 0 2) ((sys k s).extract 4 (sys k s).size) = false := by
  obtain ⟨c1, p, hp, e1⟩ := sys_cases h
  have s3 := cod_size c1
  have hsz : 5 ≤ p.size := by rcases pre_cases hp with ⟨_, e⟩ | ⟨_, e⟩ | ⟨_, e⟩ | ⟨_, e⟩ <;> rw [e] <;> decide
  have h0 : cap (byt p 0) = false := by rcases pre_cases hp with ⟨_, e⟩ | ⟨_, e⟩ | ⟨_, e⟩ | ⟨_, e⟩ <;> rw [e] <;> decide
  have hs : (sys k s).size = p.size + 3 := by rw [e1, ByteArray.size_append, s3]
  have z := ext_size (sys k s) 0 2 (by omega)
  refine ⟨by omega, ?_⟩
  rw [prt_iff (by omega), allB_false (k := 0) (by omega)]
  · rfl
  · rw [byt_extract (by omega) (by omega), Nat.zero_add, e1, byt_app_left (by omega)]
    exact h0

set_option maxRecDepth 100000 in
set_option maxHeartbeats 6000000 in
theorem order_walk (B : Nat → Addr) (m n : Int) (s : ByteArray) (k l : Int) (c1 c2 : ByteArray) (w : World) (hE : Env4 w B) (htab : Tab w) (hs1 : c1.size ≤ 140737488355328) (hs2 : c2.size ≤ 140737488355328) :
    Calls Tryd.prog 8 #[.int .i64 m, .int .i64 n, .string s, .int .i64 k, .int .i64 l, .string c1, .string c2] w fun e w' => e = .returned (.bool true) ∧ Below w.heap.size w w' := by
  have TB := Lib.hid (Lib.tabBelow_of_tabIs htab)
  have HE := Lib.hid hE; clear hE htab
  have a1 := fun w h => token_any B m w h
  have a2 := fun w h => token_any B n w h
  have hm := tok_three B m
  have hn := tok_three B n
  have HT := Lib.hid (show ev B (tokE m) = .nilIface → (tokS m).size = 15 ∧ ∀ w, Env3 w B → Calls Tryd.prog 25 #[.string (tokS m)] w fun e w' => e = .returned (.tuple #[.int .i64 m, .nilIface]) ∧ Below w.heap.size w w' from by
    intro h
    have hk : tokOk m = true := by
      cases hk : tokOk m with
      | true => rfl
      | false => unfold tokE at h; rw [hk] at h; cases h
    refine ⟨tokS_size hk, fun w hE => ?_⟩
    have := number_any B (tokS m) w hE
    rwa [(num_tok hk).1, (num_tok hk).2] at this)
  have HO := Lib.hid (show ev B (tokE m) = .nilIface → ev B (tokE n) = .nilIface → Op.bytesLess (tokS m).toList (tokS n).toList = decide (m < n) from by
    intro h h'
    have hk : tokOk m = true := by
      cases hk : tokOk m with
      | true => rfl
      | false => unfold tokE at h; rw [hk] at h; cases h
    have hk' : tokOk n = true := by
      cases hk : tokOk n with
      | true => rfl
      | false => unfold tokE at h'; rw [hk] at h'; cases h'
    exact tok_order hk hk')
  generalize tokS m = t1 at *
  generalize tokS n = t2 at *
  generalize ev B (tokE m) = e1 at *
  generalize ev B (tokE n) = e2 at *
  have a3 := fun w h => number_any B s w h
  have a4 := fun w => system_any k c1 w (by omega)
  have a5 := fun w => system_any l c2 w (by omega)
  have HS := Lib.hid (show sys k c1 ≠ ⟨#[]⟩ → ∀ w, Env3 w B → Calls Tryd.prog 15 #[.string (sys k c1)] w fun e w' => e = .returned (.iface 105 (.pointer (some (B 0)))) ∧ ∃ n, w' = w.drewN n from fun h w hE =>
    check_form B (sys k c1) w hE (by have := sys_size_le h; omega) (sys_prt h).1 (sys_prt h).2)
  have HI := Lib.hid (show sys k c1 ≠ ⟨#[]⟩ → sys l c2 ≠ ⟨#[]⟩ → (sys k c1 = sys l c2 ↔ k = l ∧ c1 = c2) from fun h h2 => sys_one h h2)
  generalize sys k c1 = t3 at *
  generalize sys l c2 = t4 at *
  have HX := Lib.hid (show (ev B (numE s) = .nilIface ∧ ∀ w, Env4 w B → Tab w → Calls Tryd.prog 23 #[.int .i64 (numN s)] w fun e w' => e = .returned (.tuple #[.string s, .nilIface]) ∧ Below w.heap.size w w') ∨ ∃ a, ev B (numE s) = .iface 105 (.pointer (some a)) from by
    cases hx : numE s with
    | zero =>
      refine .inl ⟨rfl, fun w h1 h2 => ?_⟩
      obtain ⟨y, z⟩ := tok_num hx
      have := token_any B (numN s) w h1 h2
      rw [z] at this
      unfold tokE at this
      rw [y] at this
      exact this
    | succ i => exact .inr ⟨_, rfl⟩)
  generalize numN s = x at *
  generalize ev B (numE s) = e3 at *
  have HM := Lib.hid hm
  have HN := Lib.hid hn
  clear hm hn
  go_enter Tryd.func8, Tryd.ntmps8
  go_wp2_with fail
  refine (lives_any B _ (env34 HE.out)).mono ?_
  rintro e w1 ⟨rfl, hb1⟩
  have HB1 := Lib.hid hb1; clear hb1
  go_wp2_with fail
  refine (a1 _ (HE.out.below HB1.out) (TB.out _ HB1.out)).mono ?_
  rintro e w2 ⟨rfl, hb2⟩
  have HB2 := Lib.hid (HB1.out.trans (hb2.mono HB1.out.size)); clear hb2
  go_wp2_with fail
  refine (a2 _ (HE.out.below HB2.out) (TB.out _ HB2.out)).mono ?_
  rintro e w3 ⟨rfl, hb3⟩
  have HB3 := Lib.hid (HB2.out.trans (hb3.mono HB2.out.size)); clear hb3
  go_upto_region 6 with fail
  go_cut [60] from 41 (fun v60 wx => v60 = .bool false ∧ wx = w3)
  case first =>
    rcases HM.out with ⟨rfl, y⟩ | ⟨rfl, y, z⟩ | ⟨rfl, y, z⟩ <;> rcases HN.out with ⟨rfl, y2⟩ | ⟨rfl, y2, z2⟩ | ⟨rfl, y2, z2⟩
    all_goals
      go_wp2_with fail
      go_meet
      exact ⟨by first | rfl | (simp; omega), rfl⟩
  case rest =>
    obtain ⟨rfl, rfl⟩ := hcut
    have HE1 := Lib.hid (show e1 = .nilIface ∨ e1 = .iface 105 (.pointer (some (B 1))) from by
      rcases HM.out with ⟨h, _⟩ | ⟨h, _⟩ | ⟨h, _⟩
      · exact .inr h
      · exact .inr h
      · exact .inl h)
    go_upto_region 8 with fail
    go_cut [62] from 61 (fun v wx => (∃ b : Bool, v = .bool b ∧ Hid (b = true → e1 = .nilIface) ∧ Hid (b = false → e1 = .iface 105 (.pointer (some (B 1))))) ∧ wx = wc)
    case first =>
      rcases HE1.out with rfl | rfl
      · go_wp2_with fail
        go_meet
        exact ⟨⟨true, rfl, Lib.hid (by simp), Lib.hid (by simp)⟩, rfl⟩
      · go_wp2_with fail
        go_meet
        exact ⟨⟨false, rfl, Lib.hid (by simp), Lib.hid (by simp)⟩, rfl⟩
    case rest =>
      obtain ⟨⟨b1, rfl, F1, F2⟩, rfl⟩ := hcut
      go_upto_if 62 with fail
      go_cut [20, 21] from 63 (fun _ _ wx => Hid (Below w.heap.size w wx))
      case first =>
        cases b1 with
        | false =>
          go_wp2_with fail
          go_meet
          exact HB3
        | true =>
          have hT := (HT.out (F1.out rfl)).2 _ (env34 (HE.out.below HB3.out))
          have hS := (HT.out (F1.out rfl)).1
          go_wp2_with fail
          refine hT.mono ?_
          rintro e w4 ⟨rfl, hb4⟩
          have HB4 := Lib.hid (HB3.out.trans (hb4.mono HB3.out.size)); clear hb4
          go_wp2_with fail
          go_meet
          exact HB4
      case rest =>
        have HB4 := hcut
        clear hcut F1 F2
        have HE2 := Lib.hid (show e2 = .nilIface ∨ e2 = .iface 105 (.pointer (some (B 1))) from by
          rcases HN.out with ⟨h, _⟩ | ⟨h, _⟩ | ⟨h, _⟩
          · exact .inr h
          · exact .inr h
          · exact .inl h)
        go_upto_region 12 with fail
        go_cut [94] from 80 (fun v wx => v = .bool false ∧ wx = wc)
        case first =>
          rcases HE1.out with h | h
          · rcases HE2.out with h2 | h2
            · have ho := HO.out h h2
              subst h; subst h2
              go_wp2_with fail
              go_meet
              exact ⟨by first | rfl | simp [ho], rfl⟩
            · subst h; subst h2
              go_wp2_with fail
              go_meet
              exact ⟨by first | rfl | simp, rfl⟩
          · subst h
            go_wp2_with fail
            go_meet
            exact ⟨by first | rfl | simp, rfl⟩
        case rest =>
          obtain ⟨rfl, rfl⟩ := hcut
          go_upto_region 14 with fail
          go_wp2_with fail
          refine (a3 _ (env34 (HE.out.below HB4.out))).mono ?_
          rintro e w5 ⟨rfl, hb5⟩
          have HB5 := Lib.hid (HB4.out.trans (hb5.mono HB4.out.size)); clear hb5
          go_upto_region 15 with fail
          go_cut [101] from 100 (fun v wx => (∃ b : Bool, v = .bool b ∧ Hid (b = true → e3 = .nilIface)) ∧ wx = w5)
          case first =>
            rcases HX.out with ⟨h, _⟩ | ⟨a, h⟩
            · subst h
              go_wp2_with fail
              go_meet
              exact ⟨⟨true, rfl, Lib.hid (by simp)⟩, rfl⟩
            · subst h
              go_wp2_with fail
              go_meet
              exact ⟨⟨false, rfl, Lib.hid (by simp)⟩, rfl⟩
          case rest =>
            obtain ⟨⟨b3, rfl, F3⟩, rfl⟩ := hcut
            go_upto_if 101 with fail
            go_cut [24, 25] from 102 (fun _ _ wx => Hid (Below w.heap.size w wx))
            case first =>
              cases b3 with
              | false =>
                go_wp2_with fail
                go_meet
                exact HB5
              | true =>
                have hT := (HX.out.resolve_right (by rintro ⟨a, h⟩; rw [F3.out rfl] at h; cases h)).2 _ (HE.out.below HB5.out) (TB.out _ HB5.out)
                go_wp2_with fail
                refine hT.mono ?_
                rintro e w6 ⟨rfl, hb6⟩
                have HB6 := Lib.hid (HB5.out.trans (hb6.mono HB5.out.size)); clear hb6
                go_wp2_with fail
                go_meet
                exact HB6
            case rest =>
              have HB6 := hcut
              clear hcut F3
              have v0 : (⟨#[]⟩ : ByteArray).toList = [] := (toList_nil_iff_emptyBytes _).2 rfl
              go_wp2_with fail
              refine (a4 _).mono ?_
              rintro e w' ⟨rfl, rfl⟩
              go_wp2_with fail
              refine (a5 _).mono ?_
              rintro e w9 ⟨rfl, rfl⟩
              by_cases h3 : t3 = ⟨#[]⟩
              · subst h3
                go_wp2_with fail
                go_ret
                exact ⟨rfl, HB6.out⟩
              · have h3a : ¬ t3.toList = [] := fun h => h3 ((toList_nil_iff_emptyBytes t3).1 h)
                have h3b : t3.toList.isEmpty = false := by simpa using h3a
                by_cases h4 : t4 = ⟨#[]⟩
                · subst h4
                  go_wp2_with fail
                  go_ret
                  exact ⟨rfl, HB6.out⟩
                · have h4a : ¬ t4.toList = [] := fun h => h4 ((toList_nil_iff_emptyBytes t4).1 h)
                  have h4b : t4.toList.isEmpty = false := by simpa using h4a
                  have a6 := fun n => HS.out h3 (w9.drewN n) (env34 ((HE.out.below HB6.out).below (below_drewN (Below.refl _ _) n)))
                  have hio := HI.out h3 h4
                  have hse := fun w => same_eql w (B 0)
                  have c0 := (HE.out.below HB6.out).cell 0 (by decide)
                  clear v0 h3 h4
                  cases hk : (k == l) with
                  | false =>
                    have hk' : k ≠ l := by simpa using hk
                    have ht : (t3.toList == t4.toList) = false := by rw [beq_list]; exact decide_eq_false (fun h => hk' (hio.1 h).1)
                    clear hio hk'
                    have hk2 : decide (k = l) = false := by simpa using hk
                    go_upto_region 22 with fail
                    go_quiet ((go_at_call 15; exact Calls.quiet_of (a6 _)))
                    go_wp2
                    go_ret
                    exact ⟨rfl, below_drewN HB6.out _⟩
                  | true =>
                    obtain rfl : k = l := by simpa using hk
                    have ht : (t3.toList == t4.toList) = (c1.toList == c2.toList) := by rw [beq_list, beq_list]; exact decide_eq_decide.2 ⟨fun h => (hio.1 h).2, fun h => hio.2 ⟨rfl, h⟩⟩
                    clear hio hk
                    cases hc : (c1.toList == c2.toList) with
                    | false =>
                      rw [hc] at ht
                      go_upto_region 22 with fail
                      go_quiet ((go_at_call 15; exact Calls.quiet_of (a6 _)))
                      go_wp2
                      go_ret
                      exact ⟨rfl, below_drewN HB6.out _⟩
                    | true =>
                      rw [hc] at ht
                      go_upto_region 22 with fail
                      go_quiet ((go_at_call 15; exact Calls.quiet_of (a6 _)))
                      go_wp2
                      go_ret
                      exact ⟨rfl, below_drewN HB6.out _⟩
end Go.Proofs.YtfcalpfpfibbfaaDoor
