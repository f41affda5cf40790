/- The Reader's Float and Text: walked. -/
import Derived.Test.YtnodjcapclkmhaaDoorReader5
namespace Go.Proofs.YtnodjcapclkmhaaDoor
open Go.RowKit

theorem lowV_lt (s : ByteArray) (p : Nat) : ∀ k, lowV s p k < 2 ^ (8 * k)
  | 0 => (by decide : 0 < 1)
  | k + 1 => by
    have ih := lowV_lt s p k
    have hb := byt_lt s (p + k)
    unfold lowV
    rw [show 8 * (k + 1) = 8 * k + 8 by omega, Nat.pow_add]
    generalize 2 ^ (8 * k) = P at *
    have : byt s (p + k) * P ≤ 255 * P := Nat.mul_le_mul_right _ (by omega)
    omega

/-- A float's bits at p. -/
def fG (s : ByteArray) (p : Nat) : Except Nat (Nat × Nat) := match lowG s p 4 with
  | .error e => .error e
  | .ok (x, q) => if nan32 x = true ∧ x ≠ 2143289344 then .error 7 else .ok (x, q)
def fV (B : Nat → Addr) : Except Nat (Nat × Nat) → Value
  | .ok (x, _) => .tuple #[.float .f32 x, .nilIface]
  | .error e => .tuple #[.float .f32 0, ev B e]
/-- What the closure answers. -/
def fC (s : ByteArray) (p : Nat) : Nat × Nat := match lowG s p 4 with
  | .error e => (0, e)
  | .ok (x, _) => if nan32 x = true ∧ x ≠ 2143289344 then (x, 7) else (x, 0)

theorem lowG_err {s : ByteArray} {p n e : Nat} (h : lowG s p n = .error e) : e = 1 := by
  unfold lowG at h; split at h
  · exact (Except.error.inj h).symm
  · cases h
theorem lowG_ok {s : ByteArray} {p n x q : Nat} (h : lowG s p n = .ok (x, q)) : x < 2 ^ (8 * n) ∧ q = p + n ∧ n ≤ s.size - p := by
  unfold lowG at h; split at h
  · cases h
  · obtain ⟨rfl, rfl⟩ := Prod.mk.inj (Except.ok.inj h)
    exact ⟨lowV_lt s p n, rfl, by omega⟩

set_option maxRecDepth 100000 in
set_option maxHeartbeats 1000000 in
theorem float1_any (B : Nat → Addr) (B0 g a : Nat) (s : ByteArray) (p : Nat) (w : World) (hE : EnvB B0 w B) (hg0 : B0 ≤ g) (hR : Rdr w g s p) (hp : p ≤ s.size) (hs : s.size ≤ 9223372036854770000)
    (ha : w.cell? ⟨a, 0, none⟩ = some (.pointer (some ⟨g, 0, none⟩))) :
    Calls Tryd.prog 73 #[.pointer (some ⟨a, 0, none⟩)] w fun e w' => e = .returned (.tuple #[.float .f32 (fC s p).1, ev B (fC s p).2]) ∧ Rdr w' g s (uP p (lowG s p 4)) ∧ Wrote w w' g none none ∧ True := by
  have a1 := rlow_any B B0 g s p 4 w hE hg0 hR hp hs (by decide)
  have HE := Lib.hid hE; clear hE hR
  unfold fC
  cases hu : lowG s p 4 with
  | error e =>
    rw [hu] at a1
    simp only [uV, uP] at a1
    simp only [uP]
    obtain rfl := lowG_err hu
    rw [show ev B 1 = .iface 123 (.pointer (some (B 1))) from rfl] at a1 ⊢
    have k0 := run_frombits 0
    clear hu
    go_enter Tryd.func73, Tryd.ntmps73
    go_wp2_with fail
    refine a1.mono ?_
    rintro e w' ⟨rfl, h1, h2⟩
    have H1 := Lib.hid h1; have H2 := Lib.hid h2; clear h1 h2
    go_wp2
    go_ret2
    exact ⟨rfl, H1.out, H2.out, trivial⟩
  | ok y =>
    obtain ⟨x, q⟩ := y
    have hx := (lowG_ok hu).1
    rw [hu] at a1
    simp only [uV, uP] at a1
    simp only [uP]
    clear hu
    have hx' : x < 4294967296 := hx
    have km : (x : Int) % 4294967296 = (x : Int) := by omega
    have k0 : ∀ w, (callFunc 40 #[.int .u32 (x : Int)]).run Tryd.prog w = .ok (.value (.float .f32 x)) w := fun w => run_frombits x w
    have k2 := ne_self x
    clear hx
    cases hn : nan32 x with
    | false =>
      simp only [Bool.false_eq_true, false_and, if_false]
      rw [hn] at k2
      rw [show ev B 0 = .nilIface from rfl]
      go_enter Tryd.func73, Tryd.ntmps73
      go_wp2_with fail
      refine a1.mono ?_
      rintro e w' ⟨rfl, h1, h2⟩
      have H1 := Lib.hid h1; have H2 := Lib.hid h2; clear h1 h2
      go_wp2
      go_ret2
      exact ⟨rfl, H1.out, H2.out, trivial⟩
    | true =>
      simp only [true_and]
      rw [hn] at k2
      by_cases h : x = 2143289344
      · simp only [ne_eq, h, not_true, if_false]
        have hc : ((x : Int) != 2143289344) = false := by simp; omega
        rw [← h]
        clear h
        rw [show ev B 0 = .nilIface from rfl]
        go_enter Tryd.func73, Tryd.ntmps73
        go_wp2_with fail
        refine a1.mono ?_
        rintro e w' ⟨rfl, h1, h2⟩
        have H1 := Lib.hid h1; have H2 := Lib.hid h2; clear h1 h2
        go_wp2
        go_ret2
        exact ⟨rfl, H1.out, H2.out, trivial⟩
      · simp only [ne_eq, h, not_false_eq_true, if_true]
        have hc : ((x : Int) != 2143289344) = true := by simp; omega
        rw [show ev B 7 = .iface 123 (.pointer (some (B 5))) from rfl]
        clear h
        go_enter Tryd.func73, Tryd.ntmps73
        go_wp2_with fail
        refine a1.mono ?_
        rintro e w' ⟨rfl, h1, h2⟩
        have g5 := (HE.out.wrote h2 hg0 (fun k h => by cases h)).env.cell 5 (by decide)
        have H1 := Lib.hid h1; have H2 := Lib.hid h2; clear h1 h2
        go_wp2
        go_ret2
        exact ⟨rfl, H1.out, H2.out, trivial⟩

theorem fC_fG (B : Nat → Addr) (s : ByteArray) (p : Nat) :
    Value.tuple #[if (fC s p).2 = 0 then .float .f32 (fC s p).1 else .float .f32 0, ev B (fC s p).2] = fV B (fG s p) ∧ (if (fC s p).2 = 0 then uP p (lowG s p 4) else p) = uP p (fG s p) := by
  unfold fC fG
  cases hu : lowG s p 4 with
  | error e =>
    obtain rfl := lowG_err hu
    exact ⟨rfl, rfl⟩
  | ok y =>
    obtain ⟨x, q⟩ := y
    simp only []
    by_cases h : nan32 x = true ∧ x ≠ 2143289344
    · simp only [if_pos h]; exact ⟨rfl, rfl⟩
    · simp only [if_neg h]; exact ⟨rfl, rfl⟩

set_option maxRecDepth 100000 in
set_option maxHeartbeats 1000000 in
theorem rFloat_any (B : Nat → Addr) (B0 g : Nat) (s : ByteArray) (p : Nat) (w : World) (hE : EnvB B0 w B) (hg0 : B0 ≤ g) (hR : Rdr w g s p) (hp : p ≤ s.size) (hs : s.size ≤ 9223372036854770000) :
    Calls Tryd.prog 58 #[.pointer (some ⟨g, 0, none⟩)] w fun e w' => e = .returned (fV B (fG s p)) ∧ Rdr w' g s (uP p (fG s p)) ∧ Wrote w w' g none none := by
  have b1 := one_box w (.pointer (some ⟨g, 0, none⟩)) 42
  have b3 := Below.new w (.cells #[.pointer (some ⟨g, 0, none⟩)] 42)
  have a0 := float1_any B B0 g w.heap.size s p _ (hE.below (b3.mono hE.lt)) hg0 (hR.below b3) hp hs b1
  have a1 := undone_float B g s p _ _ _ _ (fun _ => True) _ (hR.below b3) a0
  obtain ⟨e1, e2⟩ := fC_fG B s p
  rw [e1, e2] at a1
  obtain ⟨x, y, e3⟩ : ∃ x y, fV B (fG s p) = .tuple #[x, y] := by
    cases fG s p with
    | error e => exact ⟨_, _, rfl⟩
    | ok x => exact ⟨_, _, rfl⟩
  have H3 := Lib.hid (Wrote.of_below b3 g none)
  clear a0 e1 e2 b1 b3 hR hE
  generalize fV B (fG s p) = V at *
  subst e3
  generalize uP p (fG s p) = q at *
  go_enter Tryd.func58, Tryd.ntmps58
  go_wp2_with fail
  refine a1.mono ?_
  rintro e w' ⟨rfl, h1, h2, _⟩
  have H1 := Lib.hid h1; have H2 := Lib.hid h2; clear h1 h2
  go_wp2
  go_ret2
  exact ⟨rfl, H1.out, H3.out.trans H2.out⟩
end Go.Proofs.YtnodjcapclkmhaaDoor
