/- sort.symMerge_func, whole: walked, over any program that lays it. -/
import Derived.Test.YthkobjbemmllfaaGreatDoorSymW
import Derived.Deep.DeepCutAuto
namespace Go.Proofs.YthkobjbemmllfaaGreatDoor
open Go Go.Proofs Go.Shelf Go.RowKit Go.Lib Go.Sort
variable {P : Program} {ρ : Ren} {α : Type} [Inhabited α]
theorem half_at (x y : Nat) : ((x : Int) + (y : Int)) / 2 = (((x + y) / 2 : Nat) : Int) := by omega

set_option maxHeartbeats 1600000 in
set_option maxRecDepth 1000000 in
theorem symMerge_first (L : LaysGt.n8 P ρ) {enc : α → Value} {lt : α → α → Bool} {g : Nat} {lb : Array Value} {sf : Nat} {sb : Array Value} (eg : ∀ args w, (callFunc g args).run P w = .ok (.enter g args) w) {blk off : Nat} {d : Array α} {W : World} (hC : Ctx P enc lt g lb sf sb blk off d W)
    {R : α → α → Prop} (hO : Order R) (a m b : Nat) (hm : m = a + 1) (hR : Runs R lt (gt d) a m b) (h3 : b ≤ d.size) :
    Calls P (ρ.f 30) #[.agg #[.func (.func g) #[] lb, .func (.func sf) #[] sb], .int .i64 a, .int .i64 m, .int .i64 b] W fun e w' => e = .returned (.tuple #[]) ∧ ∃ d', d'.size = d.size ∧ Merge R (gt d) a b (gt d') ∧ SW enc W blk off d' w' := by
  have mixed := L.mixed; have t0 := L.t0; have a0 := L.a0; have z0 := L.z0; have v0 := L.v0; have t3 := L.t3; have a3 := L.a3; have z3 := L.z3; have v3 := L.v3; have t4 := L.t4; have a4 := L.a4; have z4 := L.z4; have v4 := L.v4; have t26 := L.t26; have a26 := L.a26; have z26 := L.z26; have v26 := L.v26; have t38 := L.t38; have a38 := L.a38; have z38 := L.z38; have v38 := L.v38; have t42 := L.t42; have a42 := L.a42; have z42 := L.z42; have v42 := L.v42; have t47 := L.t47; have a47 := L.a47; have z47 := L.z47; have v47 := L.v47
  have u42 := run_underlying L.t42
  have hlt := hC.lt
  have hsz := hC.sz
  have hmb := hR.mb
  have hne : W.heap.size ≠ blk := by omega
  have HC := Lib.hid hC
  subst hm
  have HR := Lib.hid hR
  have HO := Lib.hid hO
  clear hC hR hO
  rw [show (((a + 1 : Nat)) : Int) = (a : Int) + 1 by omega]
  have q1 : ((a : Int) + 1 - a == 1) = true := by simp; omega
  go_enter L.f30, BodyGt.n30_ntmps ρ
  go_wp2
  go_loopg [8, 9, 10] (b - a) (fun k s8 s9 s10 wr => ∃ (lo hi : Nat), s8 = .int .i64 lo ∧ s9 = .int .i64 hi ∧ a + 1 ≤ lo ∧ lo ≤ hi ∧ hi ≤ b ∧ hi - lo ≤ k ∧ Hid ((∀ t, a + 1 ≤ t → t < lo → lt (gt d t) (gt d a) = true) ∧ (∀ t, hi ≤ t → t < b → lt (gt d t) (gt d a) = false)) ∧ Hid (SW enc W blk off d wr) ∧ Hid (Bx W.heap.size (.func (.func g) #[] lb) (.func (.func sf) #[] sb) wr))
  case atStart => exact ⟨a + 1, b, by congr 1, rfl, Nat.le_refl _, by omega, Nat.le_refl _, by omega, Lib.hid ⟨fun t h1 h2 => by omega, fun t h1 h2 => by omega⟩, Lib.hid (HC.out.start.alloc _), Lib.hid ⟨by simp, by simp, by simp⟩⟩
  case round =>
    obtain ⟨lo, hi, rfl, rfl, hlo, hlh, hhb, hk, hI, hSW, hBx⟩ := hrel
    obtain ⟨c0, c1, _⟩ := hBx.out
    by_cases h : lo < hi
    · have hl := (HC.out.step hSW.out rfl).less 0 #[] d rfl ((lo + hi) / 2) a (by omega) (by omega)
      have hl := hSW.out.less HC.out.less rfl ((lo + hi) / 2) a (by omega) (by omega)
      rw [← half_at] at hl
      cases hv : lt d[(lo + hi) / 2]! d[a]! with
      | true =>
        rw [hv] at hl
        have HV := Lib.hid (show lt (gt d ((lo + hi) / 2)) (gt d a) = true from hv)
        clear hv
        go_wp2_with (go_at_fn g; refine hl.mono ?_; rintro e w2 ⟨rfl, q, rfl⟩)
        go_roundg (hi - ((lo + hi) / 2 + 1))
        case measure => omega
        case rel => exact ⟨(lo + hi) / 2 + 1, hi, by congr 1, rfl, by omega, by omega, hhb, Nat.le_refl _, Lib.hid ⟨fun t h1 h2 => HR.out.first_down HO.out h1 (by omega) (by omega) HV.out, hI.out.2⟩, Lib.hid (hSW.out.drewN q), hBx⟩
      | false =>
        rw [hv] at hl
        have HV := Lib.hid (show lt (gt d ((lo + hi) / 2)) (gt d a) = false from hv)
        clear hv
        go_wp2_with (go_at_fn g; refine hl.mono ?_; rintro e w2 ⟨rfl, q, rfl⟩)
        go_roundg ((lo + hi) / 2 - lo)
        case measure => omega
        case rel => exact ⟨lo, (lo + hi) / 2, rfl, by congr 1, hlo, by omega, by omega, Nat.le_refl _, Lib.hid ⟨hI.out.1, fun t h1 h2 => HR.out.first_up HO.out (by omega) h1 h2 HV.out⟩, Lib.hid (hSW.out.drewN q), hBx⟩
    · obtain rfl : lo = hi := by omega
      have HM := Lib.hid (merge_first HR.out hlo hhb hI.out.1 hI.out.2)
      go_wp2
      have hSW0 := hSW
      clear hk hI
      go_loopg [11] (b - a) (fun k s11 wx => ∃ (k' : Nat) (dk : Array α), s11 = .int .i64 k' ∧ a ≤ k' ∧ k' + 1 ≤ lo ∧ lo - k' ≤ k ∧ dk.size = d.size ∧ Hid (gt dk = rotI (gt d) a (a + 1) (k' + 1)) ∧ Hid (SW enc W blk off dk wx) ∧ Hid (Bx W.heap.size (.func (.func g) #[] lb) (.func (.func sf) #[] sb) wx))
      case atStart => exact ⟨a, d, rfl, Nat.le_refl _, hlo, by omega, rfl, Lib.hid (rot_up0 _ _).symm, hSW0, hBx⟩
      case round =>
        obtain ⟨k', dk, rfl, hak, hkl, hkk, hs, hg, hSW, hBx⟩ := hrel
        obtain ⟨c0, c1, _⟩ := hBx.out
        by_cases h : k' < lo - 1
        · have hc2 := HC.out.step hSW.out hs
          have hs2 := hc2.swap _ dk hc2.holds rfl k' (k' + 1) (by omega) (by omega)
          have HS := Lib.hid (hSW.out.swap hlt k' (k' + 1) (by omega) (by omega))
          have HS1 := Lib.hid ((SW.start hc2.holds).swap hc2.lt k' (k' + 1) (by omega) (by omega))
          rw [show (((k' + 1 : Nat)) : Int) = (k' : Int) + 1 by omega] at hs2
          clear hc2
          go_wp2
          go_roundg (lo - (k' + 1))
          case measure => omega
          case rel => exact ⟨k' + 1, swp dk k' (k' + 1), by simp, by omega, by omega, Nat.le_refl _, by rw [size_swp]; exact hs, Lib.hid (by rw [gt_swp _ _ _ (by omega) (by omega), hg.out]; exact rot_up _ _ _ hak), HS, Lib.hid (hBx.out.on hne HS1.out)⟩
        · have hle : lo = k' + 1 := by omega
          go_wp2
          (try simp only [Exit.inBlock, Exit.then]); refine bodyPost_ret (results_none rfl _ _ _) rfl ?_
          exact ⟨rfl, dk, hs, by rw [hg.out, ← hle]; exact HM.out, hSW.out⟩

set_option maxHeartbeats 1600000 in
set_option maxRecDepth 1000000 in
theorem symMerge_last (L : LaysGt.n8 P ρ) {enc : α → Value} {lt : α → α → Bool} {g : Nat} {lb : Array Value} {sf : Nat} {sb : Array Value} (eg : ∀ args w, (callFunc g args).run P w = .ok (.enter g args) w) {blk off : Nat} {d : Array α} {W : World} (hC : Ctx P enc lt g lb sf sb blk off d W)
    {R : α → α → Prop} (hO : Order R) (a m b : Nat) (hm : b = m + 1) (ha : a + 2 ≤ m) (hR : Runs R lt (gt d) a m b) (h3 : b ≤ d.size) :
    Calls P (ρ.f 30) #[.agg #[.func (.func g) #[] lb, .func (.func sf) #[] sb], .int .i64 a, .int .i64 m, .int .i64 b] W fun e w' => e = .returned (.tuple #[]) ∧ ∃ d', d'.size = d.size ∧ Merge R (gt d) a b (gt d') ∧ SW enc W blk off d' w' := by
  have mixed := L.mixed; have t0 := L.t0; have a0 := L.a0; have z0 := L.z0; have v0 := L.v0; have t3 := L.t3; have a3 := L.a3; have z3 := L.z3; have v3 := L.v3; have t4 := L.t4; have a4 := L.a4; have z4 := L.z4; have v4 := L.v4; have t26 := L.t26; have a26 := L.a26; have z26 := L.z26; have v26 := L.v26; have t38 := L.t38; have a38 := L.a38; have z38 := L.z38; have v38 := L.v38; have t42 := L.t42; have a42 := L.a42; have z42 := L.z42; have v42 := L.v42; have t47 := L.t47; have a47 := L.a47; have z47 := L.z47; have v47 := L.v47
  have u42 := run_underlying L.t42
  have hlt := hC.lt
  have hsz := hC.sz
  have hne : W.heap.size ≠ blk := by omega
  have HC := Lib.hid hC
  subst hm
  have HR := Lib.hid hR
  have HO := Lib.hid hO
  clear hC hR hO
  rw [show (((m + 1 : Nat)) : Int) = (m : Int) + 1 by omega]
  have q1 : ((m : Int) - a == 1) = false := by simp; omega
  have q2 : ((m : Int) + 1 - m == 1) = true := by simp; omega
  go_enter L.f30, BodyGt.n30_ntmps ρ
  go_wp2
  go_loopg [12, 13, 14] (m - a) (fun k s8 s9 s10 wr => ∃ (lo hi : Nat), s8 = .int .i64 lo ∧ s9 = .int .i64 hi ∧ a ≤ lo ∧ lo ≤ hi ∧ hi ≤ m ∧ hi - lo ≤ k ∧ Hid ((∀ t, a ≤ t → t < lo → lt (gt d m) (gt d t) = false) ∧ (∀ t, hi ≤ t → t < m → lt (gt d m) (gt d t) = true)) ∧ Hid (SW enc W blk off d wr) ∧ Hid (Bx W.heap.size (.func (.func g) #[] lb) (.func (.func sf) #[] sb) wr))
  case atStart => exact ⟨a, m, rfl, rfl, Nat.le_refl _, by omega, Nat.le_refl _, by omega, Lib.hid ⟨fun t h1 h2 => by omega, fun t h1 h2 => by omega⟩, Lib.hid (HC.out.start.alloc _), Lib.hid ⟨by simp, by simp, by simp⟩⟩
  case round =>
    obtain ⟨lo, hi, rfl, rfl, hlo, hlh, hhb, hk, hI, hSW, hBx⟩ := hrel
    obtain ⟨c0, c1, _⟩ := hBx.out
    by_cases h : lo < hi
    · have hl := hSW.out.less HC.out.less rfl m ((lo + hi) / 2) (by omega) (by omega)
      rw [← half_at] at hl
      cases hv : lt d[m]! d[(lo + hi) / 2]! with
      | false =>
        rw [hv] at hl
        have HV := Lib.hid (show lt (gt d m) (gt d ((lo + hi) / 2)) = false from hv)
        clear hv
        go_wp2_with (go_at_fn g; refine hl.mono ?_; rintro e w2 ⟨rfl, q, rfl⟩)
        go_roundg (hi - ((lo + hi) / 2 + 1))
        case measure => omega
        case rel => exact ⟨(lo + hi) / 2 + 1, hi, by congr 1, rfl, by omega, by omega, hhb, Nat.le_refl _, Lib.hid ⟨fun t h1 h2 => HR.out.last_down HO.out h1 (by omega) (by omega) HV.out, hI.out.2⟩, Lib.hid (hSW.out.drewN q), hBx⟩
      | true =>
        rw [hv] at hl
        have HV := Lib.hid (show lt (gt d m) (gt d ((lo + hi) / 2)) = true from hv)
        clear hv
        go_wp2_with (go_at_fn g; refine hl.mono ?_; rintro e w2 ⟨rfl, q, rfl⟩)
        go_roundg ((lo + hi) / 2 - lo)
        case measure => omega
        case rel => exact ⟨lo, (lo + hi) / 2, rfl, by congr 1, hlo, by omega, by omega, Nat.le_refl _, Lib.hid ⟨hI.out.1, fun t h1 h2 => HR.out.last_up HO.out (by omega) h1 h2 HV.out⟩, Lib.hid (hSW.out.drewN q), hBx⟩
    · obtain rfl : lo = hi := by omega
      have HM := Lib.hid (merge_last HR.out hlo hhb hI.out.1 hI.out.2)
      go_wp2
      have hSW0 := hSW
      clear hk hI
      go_loopg [15] (m - a) (fun k s11 wx => ∃ (k' : Nat) (dk : Array α), s11 = .int .i64 k' ∧ lo ≤ k' ∧ k' ≤ m ∧ k' - lo ≤ k ∧ dk.size = d.size ∧ Hid (gt dk = rotI (gt d) k' m (m + 1)) ∧ Hid (SW enc W blk off dk wx) ∧ Hid (Bx W.heap.size (.func (.func g) #[] lb) (.func (.func sf) #[] sb) wx))
      case atStart => exact ⟨m, d, rfl, hhb, Nat.le_refl _, by omega, rfl, Lib.hid (rot_down0 _ _).symm, hSW0, hBx⟩
      case round =>
        obtain ⟨k', dk, rfl, hak, hkl, hkk, hs, hg, hSW, hBx⟩ := hrel
        obtain ⟨c0, c1, _⟩ := hBx.out
        by_cases h : lo < k'
        · obtain ⟨j, rfl⟩ : ∃ j, k' = j + 1 := ⟨k' - 1, by omega⟩
          have hc2 := HC.out.step hSW.out hs
          have hs2 := hc2.swap _ dk hc2.holds rfl (j + 1) j (by omega) (by omega)
          have HS := Lib.hid (hSW.out.swap hlt (j + 1) j (by omega) (by omega))
          have HS1 := Lib.hid ((SW.start hc2.holds).swap hc2.lt (j + 1) j (by omega) (by omega))
          rw [show ((j : Nat) : Int) = ((j + 1 : Nat) : Int) - 1 by omega] at hs2
          clear hc2
          have hj : lo < j + 1 := h
          generalize hJ : ((j + 1 : Nat) : Int) = J at *
          have HJ := Lib.hid hJ
          have hJ1 : (lo : Int) < J := by omega
          have hJ2 : J ≤ m := by omega
          go_wp2
          go_roundg (j - lo)
          case measure => omega
          case rel => exact ⟨j, swp dk (j + 1) j, by have := HJ.out; congr 1; omega, by omega, by omega, Nat.le_refl _, by rw [size_swp]; exact hs, Lib.hid (by rw [gt_swp _ _ _ (by omega) (by omega), hg.out]; exact rot_down _ _ _ (by omega)), HS, Lib.hid (hBx.out.on hne HS1.out)⟩
        · have hle : lo = k' := by omega
          go_wp2
          (try simp only [Exit.inBlock, Exit.then]); refine bodyPost_ret (results_none rfl _ _ _) rfl ?_
          exact ⟨rfl, dk, hs, by rw [hg.out, ← hle]; exact HM.out, hSW.out⟩
end Go.Proofs.YthkobjbemmllfaaGreatDoor
namespace Go.Proofs.YthkobjbemmllfaaGreatDoor
open Go Go.Proofs Go.Shelf Go.RowKit Go.Lib Go.Sort
theorem rotI_none1 {α : Type} (f : Nat → α) (m e : Nat) : rotI f m m e = f := by
  funext x; simp only [rotI]
  repeat' split
  all_goals first | (exfalso; omega) | (congr 1; omega) | rfl
theorem rotI_none2 {α : Type} (f : Nat → α) (s m : Nat) : rotI f s m m = f := by
  funext x; simp only [rotI]
  repeat' split
  all_goals first | (exfalso; omega) | (congr 1; omega) | rfl
variable {P : Program} {ρ : Ren} {α : Type} [Inhabited α]
/-- What a merge leaves. -/
def Post (enc : α → Value) (R : α → α → Prop) (blk off : Nat) (d : Array α) (W : World) (a b : Nat) (e : Ending) (w' : World) : Prop :=
  e = .returned (.tuple #[]) ∧ ∃ d', d'.size = d.size ∧ Merge R (gt d) a b (gt d') ∧ SW enc W blk off d' w'
/-- Where the pairs turn: all that the search in the middle finds. -/
structure Found (lt : α → α → Bool) (f : Nat → α) (a m b mid s : Nat) : Prop where
  al : a ≤ s
  sm : s ≤ m
  me : m ≤ mid + m - s
  eb : mid + m - s ≤ b
  lo : a < s → mid + m - s < b → lt (f (mid + m - s)) (f (s - 1)) = false
  hi : s < m → m < mid + m - s → lt (f (mid + m - s - 1)) (f s) = true

set_option maxHeartbeats 3200000 in
set_option maxRecDepth 1000000 in
theorem symMerge_mid (L : LaysGt.n8 P ρ) {enc : α → Value} {lt : α → α → Bool} {g : Nat} {lb : Array Value} {sf : Nat} {sb : Array Value} (eg : ∀ args w, (callFunc g args).run P w = .ok (.enter g args) w)
    {R : α → α → Prop} (hO : Order R) (N : Nat) (ih : ∀ (blk off : Nat) (d : Array α) (W : World) (a m b : Nat), b - a < N → Ctx P enc lt g lb sf sb blk off d W → Runs R lt (gt d) a m b → b ≤ d.size → Calls P (ρ.f 30) #[.agg #[.func (.func g) #[] lb, .func (.func sf) #[] sb], .int .i64 a, .int .i64 m, .int .i64 b] W (Post enc R blk off d W a b))
    (blk off : Nat) (d : Array α) (W : World) (a m b : Nat) (hN : b - a < N + 1) (hC : Ctx P enc lt g lb sf sb blk off d W) (hR : Runs R lt (gt d) a m b) (h3 : b ≤ d.size) (ha : a + 2 ≤ m) (hb : m + 2 ≤ b) :
    Calls P (ρ.f 30) #[.agg #[.func (.func g) #[] lb, .func (.func sf) #[] sb], .int .i64 a, .int .i64 m, .int .i64 b] W (Post enc R blk off d W a b) := by
  have mixed := L.mixed; have t0 := L.t0; have a0 := L.a0; have z0 := L.z0; have v0 := L.v0; have t3 := L.t3; have a3 := L.a3; have z3 := L.z3; have v3 := L.v3; have t4 := L.t4; have a4 := L.a4; have z4 := L.z4; have v4 := L.v4; have t26 := L.t26; have a26 := L.a26; have z26 := L.z26; have v26 := L.v26; have t38 := L.t38; have a38 := L.a38; have z38 := L.z38; have v38 := L.v38; have t42 := L.t42; have a42 := L.a42; have z42 := L.z42; have v42 := L.v42; have t47 := L.t47; have a47 := L.a47; have z47 := L.z47; have v47 := L.v47
  have u42 := run_underlying L.t42
  have e42 : ∀ args w, (callFunc (ρ.f 42) args).run P w = .ok (.enter (ρ.f 42) args) w := enters_of L.f42 (by kernel_rfl) rfl
  have e30 : ∀ args w, (callFunc (ρ.f 30) args).run P w = .ok (.enter (ρ.f 30) args) w := enters_of L.f30 (by kernel_rfl) rfl
  have hlt := hC.lt
  have hsz := hC.sz
  have hne : W.heap.size ≠ blk := by omega
  have HC := Lib.hid hC
  have HR := Lib.hid hR
  have HO := Lib.hid hO
  have IH := Lib.hid ih
  clear hC hR hO ih
  have q1 : ((m : Int) - a == 1) = false := by simp; omega
  have q2 : ((b : Int) - m == 1) = false := by simp; omega
  have HMID := Lib.hid (half_at a b)
  go_enter L.f30, BodyGt.n30_ntmps ρ
  go_upto_if 106 with fail
  rw [HMID.out]
  generalize hmid : (a + b) / 2 = mid at *
  have hmb : a + 2 ≤ mid ∧ mid + 2 ≤ b := by omega
  obtain ⟨hm1, hm2⟩ := hmb
  have hm3 : 2 * mid ≤ a + b := by omega
  have hm4 : a + b ≤ 2 * mid + 1 := by omega
  have HMD := Lib.hid hmid
  clear hmid
  go_cut [18, 19] from 104 to 112 (fun u v wx => ∃ s0 r0 : Nat, u = .int .i64 s0 ∧ v = .int .i64 r0 ∧ s0 ≤ r0 ∧ ((mid < m ∧ s0 + b = mid + m ∧ r0 = mid) ∨ (m ≤ mid ∧ s0 = a ∧ r0 = m)) ∧ wx = W.alloc (.cells #[.func (.func g) #[] lb, .func (.func sf) #[] sb] (ρ.t 42)))
  case first =>
    rcases Nat.lt_or_ge mid m with h | h
    · go_wp2
      go_meet
      exact ⟨mid + m - b, mid, by congr 1; omega, rfl, by omega, .inl ⟨h, by omega, rfl⟩, rfl⟩
    · go_wp2
      go_meet
      exact ⟨a, m, rfl, rfl, by omega, .inr ⟨h, rfl, rfl⟩, rfl⟩
  case rest =>
    obtain ⟨s0, r0, rfl, rfl, hsr, hcase, rfl⟩ := hcut
    have hs1 : a ≤ s0 := by omega
    have hr1 : r0 ≤ m := by omega
    have hr2 : r0 ≤ mid := by omega
    have hs2 : mid + m ≤ s0 + b := by omega
    have HCASE := Lib.hid hcase
    clear hcase
    go_wp2
    go_loopg [18, 19, 21] (r0 - s0) (fun k s8 s9 s10 wr => ∃ (lo hi : Nat), s8 = .int .i64 lo ∧ s9 = .int .i64 hi ∧ s0 ≤ lo ∧ lo ≤ hi ∧ hi ≤ r0 ∧ hi - lo ≤ k ∧ Hid ((∀ t, s0 ≤ t → t < lo → lt (gt d (mid + m - 1 - t)) (gt d t) = false) ∧ (∀ t, hi ≤ t → t < r0 → lt (gt d (mid + m - 1 - t)) (gt d t) = true)) ∧ Hid (SW enc W blk off d wr) ∧ Hid (Bx W.heap.size (.func (.func g) #[] lb) (.func (.func sf) #[] sb) wr))
    case atStart => exact ⟨s0, r0, rfl, rfl, Nat.le_refl _, hsr, Nat.le_refl _, Nat.le_refl _, Lib.hid ⟨fun t h1 h2 => by omega, fun t h1 h2 => by omega⟩, Lib.hid (HC.out.start.alloc _), Lib.hid ⟨by simp, by simp, by simp⟩⟩
    case round =>
      obtain ⟨lo, hi, rfl, rfl, hlo, hlh, hhb, hk, hI, hSW, hBx⟩ := hrel
      obtain ⟨c0, c1, _⟩ := hBx.out
      by_cases h : lo < hi
      · have hl := hSW.out.less HC.out.less rfl (mid + m - 1 - (lo + hi) / 2) ((lo + hi) / 2) (by omega) (by omega)
        rw [show ((mid + m - 1 - (lo + hi) / 2 : Nat) : Int) = (mid : Int) + m - 1 - (((lo + hi) / 2 : Nat) : Int) by omega, ← half_at] at hl
        cases hv : lt d[mid + m - 1 - (lo + hi) / 2]! d[(lo + hi) / 2]! with
        | false =>
          rw [hv] at hl
          have HV := Lib.hid (show lt (gt d (mid + m - 1 - (lo + hi) / 2)) (gt d ((lo + hi) / 2)) = false from hv)
          clear hv
          go_wp2_with (go_at_fn g; refine hl.mono ?_; rintro e w2 ⟨rfl, q, rfl⟩)
          go_roundg (hi - ((lo + hi) / 2 + 1))
          case measure => omega
          case rel => exact ⟨(lo + hi) / 2 + 1, hi, by congr 1, rfl, by omega, by omega, hhb, Nat.le_refl _, Lib.hid ⟨fun t h1 h2 => HR.out.pair_down HO.out (by omega) (show t ≤ (lo + hi) / 2 by omega) (by omega) (by omega) (by omega) HV.out, hI.out.2⟩, Lib.hid (hSW.out.drewN q), hBx⟩
        | true =>
          rw [hv] at hl
          have HV := Lib.hid (show lt (gt d (mid + m - 1 - (lo + hi) / 2)) (gt d ((lo + hi) / 2)) = true from hv)
          clear hv
          go_wp2_with (go_at_fn g; refine hl.mono ?_; rintro e w2 ⟨rfl, q, rfl⟩)
          go_roundg ((lo + hi) / 2 - lo)
          case measure => omega
          case rel => exact ⟨lo, (lo + hi) / 2, rfl, by congr 1, hlo, by omega, by omega, Nat.le_refl _, Lib.hid ⟨hI.out.1, fun t h1 h2 => HR.out.pair_up HO.out (by omega) h1 (by omega) (by omega) (by omega) HV.out⟩, Lib.hid (hSW.out.drewN q), hBx⟩
      · obtain rfl : lo = hi := by omega
        have HF : Hid (Found lt (gt d) a m b mid lo) := by
          have hI := hI.out
          have hc := HCASE.out
          refine ⟨by omega, by omega, by omega, by omega, fun p q => ?_, fun p q => ?_⟩
          · have := hI.1 (lo - 1) (by omega) (by omega)
            rwa [show mid + m - 1 - (lo - 1) = mid + m - lo by omega] at this
          · have := hI.2 lo (Nat.le_refl _) (by omega)
            rwa [show mid + m - 1 - lo = mid + m - lo - 1 by omega] at this
        clear hI hk hsr hs1 hr1 hr2 hs2 hlo hhb HCASE hlh h
        obtain ⟨f1, f2, f3, f4, f5, f6⟩ := HF.out
        clear f5 f6
        go_upto_region 40 with fail
        have hE : ((mid : Int) + m - lo) = ((mid + m - lo : Nat) : Int) := by omega
        rw [hE]
        generalize he : mid + m - lo = en at *
        have HEN := Lib.hid he
        clear he hE c0 c1
        go_cut [145] from 138 to 145 (fun v wx => ∃ t : Bool, v = .bool t ∧ t = decide (lo < m ∧ m < en) ∧ wx = wr)
        case first =>
          by_cases h1 : lo < m
          · by_cases h2 : m < en
            · go_wp2
              go_meet
              exact ⟨_, rfl, by simp [h1, h2], rfl⟩
            · go_wp2
              go_meet
              exact ⟨_, rfl, by simp [h1, h2], rfl⟩
          · go_wp2
            go_meet
            exact ⟨_, rfl, by simp [h1], rfl⟩
        obtain ⟨t, rfl, ht, rfl⟩ := hcut
        have HT := Lib.hid ht
        clear ht
        go_upto_if 145 with fail
        go_cut [22] from 138 to 150 (fun u wx => ∃ d1 : Array α, u = .int .i64 en ∧ d1.size = d.size ∧ Hid (gt d1 = rotI (gt d) lo m en) ∧ Hid (SW enc W blk off d1 wx) ∧ Hid (Bx W.heap.size (.func (.func g) #[] lb) (.func (.func sf) #[] sb) wx))
        case first =>
          obtain ⟨c0, c1, _⟩ := hBx.out
          cases t with
          | true =>
            obtain ⟨h1, h2⟩ := of_decide_eq_true HT.out.symm
            have hr := rotate_any L (HC.out.step hSW.out rfl) lo m en h1 h2 (by omega)
            go_wp2_with (go_at_fn (ρ.f 42); refine hr.mono ?_; rintro e w2 ⟨rfl, d2, hs2, hg2, hS2⟩)
            go_meet
            exact ⟨d2, rfl, hs2, hg2, Lib.hid (SW.trans hSW.out hS2 hlt hs2), Lib.hid (hBx.out.on hne hS2)⟩
          | false =>
            have h1 := of_decide_eq_false HT.out.symm
            go_wp2
            go_meet
            exact ⟨d, rfl, rfl, Lib.hid (by
              rcases Nat.lt_or_ge lo m with h | h
              · rw [show en = m by omega, rotI_none2]
              · rw [show lo = m by omega, rotI_none1]), hSW, hBx⟩
        obtain ⟨d1, rfl, hs1, hg1, hSW1, hBx1⟩ := hcut
        clear hSW hBx HT
        have HMI : Hid (Mid R lt (gt d1) a lo mid en b) := by
          have hf := HF.out
          have := HMD.out
          rw [hg1.out]
          exact mid_of HO.out HR.out HMD.out.symm HEN.out.symm f1 f2 f3 f4 (by rw [← HEN.out]; exact hf.lo) (by rw [← HEN.out]; exact hf.hi)
        go_upto_region 42 with fail
        go_cut [158] from 151 to 158 (fun v wx => ∃ t : Bool, v = .bool t ∧ t = decide (a < lo ∧ lo < mid) ∧ wx = wc)
        case first =>
          by_cases h1 : a < lo
          · by_cases h2 : lo < mid
            · go_wp2
              go_meet
              exact ⟨_, rfl, by simp [h1, h2], rfl⟩
            · go_wp2
              go_meet
              exact ⟨_, rfl, by simp [h1, h2], rfl⟩
          · go_wp2
            go_meet
            exact ⟨_, rfl, by simp [h1], rfl⟩
        obtain ⟨t, rfl, ht, rfl⟩ := hcut
        have HT := Lib.hid ht
        clear ht
        go_upto_if 158 with fail
        go_cut [22] from 151 to 163 (fun u wx => ∃ d2 : Array α, u = .int .i64 en ∧ d2.size = d.size ∧ Hid (Merge R (gt d1) a mid (gt d2)) ∧ Hid (SW enc W blk off d2 wx) ∧ Hid (Bx W.heap.size (.func (.func g) #[] lb) (.func (.func sf) #[] sb) wx))
        case first =>
          obtain ⟨c0, c1, _⟩ := hBx1.out
          cases t with
          | true =>
            obtain ⟨h1, h2⟩ := of_decide_eq_true HT.out.symm
            have hr := IH.out blk off d1 _ a lo mid (by omega) (HC.out.step hSW1.out hs1) ⟨h1, h2, HMI.out.r1, HMI.out.r2, HMI.out.c1⟩ (by omega)
            go_wp2_with (go_at_fn (ρ.f 30); refine hr.mono ?_; rintro e w2 ⟨rfl, d2, hs2, hg2, hS2⟩)
            go_meet
            exact ⟨d2, rfl, hs2.trans hs1, Lib.hid hg2, Lib.hid (SW.trans hSW1.out hS2 hlt hs2), Lib.hid (hBx1.out.on hne hS2)⟩
          | false =>
            have h1 := of_decide_eq_false HT.out.symm
            go_wp2
            go_meet
            exact ⟨d1, rfl, hs1, Lib.hid (Merge.none HMI.out.r1 HMI.out.r2 (by omega)), hSW1, hBx1⟩
        obtain ⟨d2, rfl, hs2, hg2, hSW2, hBx2⟩ := hcut
        clear hSW1 hBx1 HT
        have hen : mid ≤ en := by have := HEN.out; omega
        have HSE := Lib.hid (Mid.second hen HMI.out hg2.out)
        have HJ : Hid (∀ d3 : Array α, Merge R (gt d2) mid b (gt d3) → Merge R (gt d) a b (gt d3)) := fun d3 h3' =>
          merge_join HMI.out (fun i hi => by rw [hg1.out]; exact rotI_out _ (by omega)) (fun i p q => by rw [hg1.out]; exact rotI_src _ f1 f2 f3 f4 p q) (by omega) (by omega) hg2.out h3'
        obtain ⟨c0, c1, _⟩ := hBx2.out
        by_cases h1 : mid < en
        · by_cases h2 : en < b
          · have hr := IH.out blk off d2 wc mid en b (by omega) (HC.out.step hSW2.out hs2) ⟨h1, h2, HSE.out.1, HSE.out.2.1, HSE.out.2.2⟩ (by omega)
            go_wp2_with (go_at_fn (ρ.f 30); refine hr.mono ?_; rintro e w2 ⟨rfl, d3, hs3, hg3, hS3⟩)
            go_end0
            exact ⟨rfl, d3, hs3.trans hs2, HJ.out d3 hg3, SW.trans hSW2.out hS3 hlt hs3⟩
          · go_wp2
            go_end0
            exact ⟨rfl, d2, hs2, HJ.out d2 (Merge.none HSE.out.1 HSE.out.2.1 (.inr (by omega))), hSW2.out⟩
        · go_wp2
          go_end0
          exact ⟨rfl, d2, hs2, HJ.out d2 (Merge.none HSE.out.1 HSE.out.2.1 (.inl (by omega))), hSW2.out⟩

/-- Two runs, merged. -/
theorem symMerge_any (L : LaysGt.n8 P ρ) {enc : α → Value} {lt : α → α → Bool} {g : Nat} {lb : Array Value} {sf : Nat} {sb : Array Value} (eg : ∀ args w, (callFunc g args).run P w = .ok (.enter g args) w)
    {R : α → α → Prop} (hO : Order R) : ∀ (N : Nat) (blk off : Nat) (d : Array α) (W : World) (a m b : Nat), b - a < N → Ctx P enc lt g lb sf sb blk off d W → Runs R lt (gt d) a m b → b ≤ d.size →
      Calls P (ρ.f 30) #[.agg #[.func (.func g) #[] lb, .func (.func sf) #[] sb], .int .i64 a, .int .i64 m, .int .i64 b] W (Post enc R blk off d W a b)
  | 0 => fun _ _ _ _ _ _ _ h => absurd h (Nat.not_lt_zero _)
  | N + 1 => fun blk off d W a m b hN hC hR h3 => by
    have h1 := hR.am
    have h2 := hR.mb
    rcases Nat.lt_or_ge m (a + 2) with ha | ha
    · exact symMerge_first L eg hC hO a m b (by omega) hR h3
    · rcases Nat.lt_or_ge b (m + 2) with hb | hb
      · exact symMerge_last L eg hC hO a m b (by omega) ha hR h3
      · exact symMerge_mid L eg hO N (symMerge_any L eg hO N) blk off d W a m b hN hC hR h3 ha hb
end Go.Proofs.YthkobjbemmllfaaGreatDoor
