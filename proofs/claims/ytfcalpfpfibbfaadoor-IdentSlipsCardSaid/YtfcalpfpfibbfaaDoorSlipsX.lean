/- IdentSlips, walked: whatever comes in, the law answers true. -/
import Derived.Test.YtfcalpfpfibbfaaDoorSlipsW
namespace Go.Proofs.YtfcalpfpfibbfaaDoor
open Go.RowKit Go.Sort

theorem ownsT.at {w : World} {b n c j : Nat} {A : Option Addr} {L : List ByteArray} (h : ownsT w b (.slice A n c) L) (hj : j < L.length) : ∃ g, A = some ⟨g, 0, none⟩ ∧ g < w.heap.size ∧ w.cell? ⟨g, j, none⟩ = some (.string L[j]) := by
  have hx : (L.map Value.string)[j]? = some (.string L[j]) := by rw [List.getElem?_map, List.getElem?_eq_getElem hj]; rfl
  rcases h.2 with ⟨_, h0⟩ | ⟨g, cap, cur, hv, _⟩
  · rw [h0] at hj; exact absurd hj (Nat.not_lt_zero _)
  · cases hv
    have := World.ownsRow.cells h (g := g) rfl j _ hx
    refine ⟨g, rfl, (World.ownsRow.lt h g rfl).2, ?_⟩
    rw [show (⟨g, 0, none⟩ : Addr).add j = ⟨g, j, none⟩ by unfold Addr.add; split <;> simp_all] at this
    exact this

/-- The law at one text: its slips are refused. -/
theorem made_refused {B : Nat → Addr} {c b t u : ByteArray} (h : mkO c b = some t) (hs : Slip t u) : t.size ≤ 34 ∧ u.size = t.size ∧ ∃ a, ev B (chk u) = .iface 105 (.pointer (some a)) := by
  have hc : chk t = 0 := by
    unfold mkO at h
    split at h
    · rename_i hp
      obtain ⟨d, hd, _⟩ := prt_dig hp
      rw [hd] at h
      obtain rfl := Option.some.inj h
      exact chk_made hp hd
    · cases h
  refine ⟨(chk_vl hc).2.1, hs.1, ?_⟩
  have hn := chk_slip hc hs
  cases hk : chk u with
  | zero => exact absurd hk hn
  | succ i => exact ⟨_, rfl⟩
theorem tok_refused {B : Nat → Addr} {n : Int} {u : ByteArray} (h : tokOk n = true) (hs : Slip (tokS n) u) : (numN u : Int) = 0 ∧ ∃ a, ev B (numE u) = .iface 105 (.pointer (some a)) := by
  have h0 := (num_tok h).1
  have ho : numOk (tokS n) = true := by
    cases e : numOk (tokS n) with
    | true => rfl
    | false => rw [(numE_bad e).2] at h0; cases h0
  have hf : fits (tokS n) = true := by
    cases e : fits (tokS n) with
    | true => rfl
    | false => rw [(numE_unfit ho e).2] at h0; cases h0
  have hn := num_slip ho hf hs
  refine ⟨by unfold numN; rw [if_neg hn]; rfl, ?_⟩
  cases hk : numE u with
  | zero => exact absurd hk hn
  | succ i => exact ⟨_, rfl⟩
theorem mk_two (B : Nat → Addr) (c b : ByteArray) : (mkV B c b = .tuple #[.string ⟨#[]⟩, .iface 105 (.pointer (some (B 0)))]) ∨ ∃ t, mkO c b = some t ∧ mkV B c b = .tuple #[.string t, .nilIface] := by
  unfold mkV
  cases h : mkO c b with
  | none => exact .inl rfl
  | some t => exact .inr ⟨t, rfl, rfl⟩

set_option maxRecDepth 100000 in
set_option maxHeartbeats 2000000 in
theorem slips_walk (B : Nat → Addr) (c b : ByteArray) (n i : Int) (d : Nat) (w : World) (hE : Env4 w B) (htab : Tab w) (hc : c.size ≤ 9223372036854775800) (hb : b.size ≤ 9223372036854775800) :
    Calls Tryd.prog 7 #[.string c, .string b, .int .i64 n, .int .i64 i, .int .u8 d] w fun e w' => e = .returned (.bool true) ∧ Below w.heap.size w w' := by
  have TB := Lib.hid (Lib.tabBelow_of_tabIs htab)
  have HE := Lib.hid hE; clear hE htab
  have a1 := fun w h => make_any B c b w h hc hb
  have HM := Lib.hid (show (mkV B c b = .tuple #[.string ⟨#[]⟩, .iface 105 (.pointer (some (B 0)))]) ∨ ∃ t, mkV B c b = .tuple #[.string t, .nilIface] ∧ t.size ≤ 9223372036854770000 ∧ ∀ u, Slip t u → u.size ≤ 9223372036854770000 ∧ ∃ a, ev B (chk u) = .iface 105 (.pointer (some a)) from by
    rcases mk_two B c b with h | ⟨t, h1, h2⟩
    · exact .inl h
    · refine .inr ⟨t, h2, ?_, fun u hu => ?_⟩
      · have hs : chk t = 0 := by
          unfold mkO at h1
          split at h1
          · rename_i hp
            obtain ⟨d, hd, _⟩ := prt_dig hp
            rw [hd] at h1
            obtain rfl := Option.some.inj h1
            exact chk_made hp hd
          · cases h1
        have := (chk_vl hs).2.1
        omega
      · obtain ⟨x, y, z⟩ := made_refused (B := B) h1 hu
        exact ⟨by omega, z⟩)
  have a2 := fun w h => token_any B n w h
  have HT := Lib.hid (show (ev B (tokE n) = .iface 105 (.pointer (some (B 1)))) ∨ (ev B (tokE n) = .nilIface ∧ (tokS n).size ≤ 15 ∧ ∀ u, Slip (tokS n) u → (numN u : Int) = 0 ∧ ∃ a, ev B (numE u) = .iface 105 (.pointer (some a))) from by
    cases hk : tokOk n with
    | false => left; unfold tokE; rw [hk]; rfl
    | true => right; exact ⟨by unfold tokE; rw [hk]; rfl, by rw [tokS_size hk]; omega, fun u hu => tok_refused hk hu⟩)
  generalize tokS n = t2 at *
  generalize ev B (tokE n) = e2 at *
  generalize mkV B c b = V at *
  obtain ⟨V1, V2, hV⟩ : ∃ x y, V = .tuple #[x, y] := by
    rcases HM.out with h | ⟨t, h, _⟩
    · exact ⟨_, _, h⟩
    · exact ⟨_, _, h⟩
  subst hV
  have hse := fun w => same_eql w (B 1)
  go_enter Tryd.func7, Tryd.ntmps7
  go_wp2_with fail
  refine (lives_any B _ (env34 HE.out)).mono ?_
  rintro e w1 ⟨rfl, hb1⟩
  have HB1 := Lib.hid hb1; clear hb1
  go_wp2_with fail
  refine (a1 _ (env34 (HE.out.below HB1.out))).mono ?_
  rintro e w2 ⟨rfl, hb2⟩
  have HB2 := Lib.hid (HB1.out.trans (hb2.mono HB1.out.size)); clear hb2 a1
  go_upto_region 5 with fail
  go_cut [30] from 29 (fun v wx => (∃ x : Bool, v = .bool x ∧ Hid (x = true → V2 = .nilIface)) ∧ wx = w2)
  case first =>
    rcases HM.out with h | ⟨t, h, _⟩
    · cases h
      go_wp2_with fail
      go_meet
      exact ⟨⟨false, rfl, Lib.hid (by simp)⟩, rfl⟩
    · cases h
      go_wp2_with fail
      go_meet
      exact ⟨⟨true, rfl, Lib.hid (by simp)⟩, rfl⟩
  case rest =>
    obtain ⟨⟨x, rfl, F⟩, rfl⟩ := hcut
    go_upto_if 30 with fail
    go_cut [15] from 31 to 43 (fun _ wx => Hid (Below w.heap.size w wx))
    case first =>
      cases x with
      | false =>
        go_wp2_with fail
        go_meet
        exact HB2
      | true =>
        rcases HM.out with h | ⟨t, h, hts, hsl⟩
        · have := F.out rfl; subst this; cases h
        · cases h
          have a3 := slips_any t i d wc hts
          have HSL := Lib.hid hsl; clear hsl
          go_wp2_with fail
          refine a3.mono ?_
          rintro e w3 ⟨L, v, rfl, hL, hl2, ho, hb3⟩
          obtain ⟨A, cp, rfl⟩ := ho.form
          have HL := Lib.hid hL; have HO := Lib.hid ho
          have HB3 := Lib.hid (HB2.out.trans (hb3.mono HB2.out.size)); clear hb3 hL ho
          go_wp2_with fail
          go_loopw [36, 15] (fun vi _ wr => ∃ j : Nat, j ≤ L.length ∧ vi = .int .i64 j ∧ Hid (Below w3.heap.size w3 wr)) (fun vi _ _ => L.length - (intOf vi).toNat)
          case atStart => exact ⟨0, Nat.zero_le _, rfl, Lib.hid (Below.refl _ _)⟩
          case round =>
            obtain ⟨j, hj, rfl, hh⟩ := hrel
            by_cases hlt : j < L.length
            · obtain ⟨g, rfl, hg, hcell⟩ := HO.out.at hlt
              have hc2 : wr.cell? ⟨g, j, none⟩ = some (.string L[j]) := (hh.out.cell (p := ⟨g, j, none⟩) hg).trans hcell
              obtain ⟨us, a, ha⟩ := HSL.out _ (HL.out L[j] (List.getElem_mem hlt))
              have a4 := check_any B L[j] wr (env34 (HE.out.below (HB3.out.trans (hh.out.mono HB3.out.size)))) us
              rw [ha] at a4
              clear ha hcell
              generalize L[j] = u at *
              go_wp2_with fail
              refine a4.mono ?_
              rintro e w4 ⟨rfl, hb4⟩
              have HB4 := Lib.hid (hh.out.trans (hb4.mono hh.out.size)); clear hb4
              go_wp2_with fail
              go_roundw
              case rel => exact ⟨j + 1, by omega, by go_num, HB4⟩
              case measure => simp [intOf]; omega
            · obtain rfl : j = L.length := by omega
              go_wp2_with fail
              go_meet
              exact Lib.hid (HB3.out.trans (hh.out.mono HB3.out.size))
    case rest =>
      have HB5 := hcut
      clear hcut F
      go_wp2_with fail
      refine (a2 _ (HE.out.below HB5.out) (TB.out _ HB5.out)).mono ?_
      rintro e w6 ⟨rfl, hb6⟩
      have HB6 := Lib.hid (HB5.out.trans (hb6.mono HB5.out.size)); clear hb6 a2
      rcases HT.out with h | ⟨h, hts, hsl⟩
      · subst h
        have c1 := (HE.out.below HB6.out).cell 1 (by decide)
        go_wp2
        go_ret
        exact ⟨rfl, HB6.out⟩
      · subst h
        have a3 := slips_any t2 i d w6 (by omega)
        have HSL := Lib.hid hsl; clear hsl
        go_wp2_with fail
        refine a3.mono ?_
        rintro e w3 ⟨L, v, rfl, hL, hl2, ho, hb3⟩
        obtain ⟨A, cp, rfl⟩ := ho.form
        have HL := Lib.hid hL; have HO := Lib.hid ho
        have HB3 := Lib.hid (HB6.out.trans (hb3.mono HB6.out.size)); clear hb3 hL ho
        go_wp2_with fail
        go_loopw [59, 17, 18, 19] (fun vi _ _ _ wr => ∃ j : Nat, j ≤ L.length ∧ vi = .int .i64 j ∧ Hid (Below w3.heap.size w3 wr)) (fun vi _ _ _ _ => L.length - (intOf vi).toNat)
        case atStart => exact ⟨0, Nat.zero_le _, rfl, Lib.hid (Below.refl _ _)⟩
        case round =>
          obtain ⟨j, hj, rfl, hh⟩ := hrel
          by_cases hlt : j < L.length
          · obtain ⟨g, rfl, hg, hcell⟩ := HO.out.at hlt
            have hc2 : wr.cell? ⟨g, j, none⟩ = some (.string L[j]) := (hh.out.cell (p := ⟨g, j, none⟩) hg).trans hcell
            obtain ⟨un, a, ha⟩ := HSL.out _ (HL.out L[j] (List.getElem_mem hlt))
            have a4 := number_any B L[j] wr (env34 (HE.out.below (HB3.out.trans (hh.out.mono HB3.out.size))))
            rw [ha, un] at a4
            clear ha hcell un
            generalize L[j] = u at *
            go_wp2_with fail
            refine a4.mono ?_
            rintro e w4 ⟨rfl, hb4⟩
            have HB4 := Lib.hid (hh.out.trans (hb4.mono hh.out.size)); clear hb4
            go_wp2_with fail
            go_roundw
            case rel => exact ⟨j + 1, by omega, by go_num, HB4⟩
            case measure => simp [intOf]; omega
          · obtain rfl : j = L.length := by omega
            go_wp2_with fail
            go_ret
            exact ⟨rfl, HB3.out.trans (hh.out.mono HB3.out.size)⟩
end Go.Proofs.YtfcalpfpfibbfaaDoor
