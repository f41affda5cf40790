/- The Reader's Text: walked. -/
import Derived.Test.YtnodjcapclkmhaaDoorReader6
namespace Go.Proofs.YtnodjcapclkmhaaDoor
open Go.RowKit

theorem upG_err {s : ByteArray} {p e : Nat} {n : Int} (h : upG s p n = .error e) : e = 1 ∨ e = 2 ∨ e = 3 := by
  unfold upG at h
  cases hu : uG s p 0 0 with
  | error e' =>
    rw [hu] at h
    obtain rfl := Except.error.inj h
    rcases uG_err hu with h | h
    · exact .inl h
    · exact .inr (.inl h)
  | ok y =>
    rw [hu] at h
    simp only [] at h
    split at h
    · exact .inr (.inr (Except.error.inj h).symm)
    · cases h
theorem upG_ok {s : ByteArray} {p x q : Nat} {n : Int} (h : upG s p n = .ok (x, q)) : (x : Int) ≤ n ∧ p < q ∧ q ≤ s.size ∧ uG s p 0 0 = .ok (x, q) := by
  unfold upG at h
  cases hu : uG s p 0 0 with
  | error e' => rw [hu] at h; cases h
  | ok y =>
    obtain ⟨x', q'⟩ := y
    rw [hu] at h
    simp only [] at h
    split at h
    · cases h
    · obtain ⟨rfl, rfl⟩ := Prod.mk.inj (Except.ok.inj h)
      have := uG_ok hu
      exact ⟨by omega, this.2.1, this.2.2, rfl⟩

/-- A text of at most m bytes at p. -/
def tG (s : ByteArray) (p : Nat) (m : Int) : Except Nat (ByteArray × Nat) := match upG s p m with
  | .error e => .error e
  | .ok (n, q) => if s.size - q < n then .error 1 else .ok (s.extract q (q + n), q + n)
def tV (B : Nat → Addr) : Except Nat (ByteArray × Nat) → Value
  | .ok (x, _) => .tuple #[.string x, .nilIface]
  | .error e => .tuple #[.string ⟨#[]⟩, ev B e]
/-- What the closure answers: the text, the error's number, the place behind. -/
def tC (s : ByteArray) (p : Nat) (m : Int) : ByteArray × Nat × Nat := match upG s p m with
  | .error e => (⟨#[]⟩, e, p)
  | .ok (n, q) => if s.size - q < n then (⟨#[]⟩, 1, q) else (s.extract q (q + n), 0, q + n)

set_option maxRecDepth 100000 in
set_option maxHeartbeats 1000000 in
theorem text1_any (B : Nat → Addr) (B0 g a b : Nat) (s : ByteArray) (p : Nat) (m : Int) (w : World) (hE : EnvB B0 w B) (hg0 : B0 ≤ g) (hR : Rdr w g s p) (hp : p ≤ s.size) (hs : s.size ≤ 4611686018427387904)
    (hm : -9223372036854775808 ≤ m ∧ m ≤ 9223372036854775807) (ha : w.cell? ⟨a, 0, none⟩ = some (.pointer (some ⟨g, 0, none⟩))) (hb : w.cell? ⟨b, 0, none⟩ = some (.int .i64 m)) (hag : a ≠ g) :
    Calls Tryd.prog 70 #[.pointer (some ⟨a, 0, none⟩), .pointer (some ⟨b, 0, none⟩)] w fun e w' => e = .returned (.tuple #[.string (tC s p m).1, ev B (tC s p m).2.1]) ∧ Rdr w' g s (tC s p m).2.2 ∧ Wrote w w' g none none ∧ True := by
  have a1 := rUpto_any B B0 g s p m w hE hg0 hR hp (by omega) hm
  have HE := Lib.hid hE; clear hE hR
  have HA := Lib.hid (show ∀ w1, Wrote w w1 g none none → w1.cell? ⟨a, 0, none⟩ = some (.pointer (some ⟨g, 0, none⟩)) from fun w1 h => (h.cell (World.block_lt_of_cell? w _ ha) hag (by simp)).trans ha)
  unfold tC
  cases hu : upG s p m with
  | error e =>
    rw [hu] at a1
    simp only [nV, uP] at a1
    simp only []
    obtain ⟨c, hc⟩ : ∃ c, ev B e = .iface 123 (.pointer (some c)) := by rcases upG_err hu with rfl | rfl | rfl <;> exact ⟨_, rfl⟩
    rw [hc] at a1 ⊢
    clear hc hu hm
    go_enter Tryd.func70, Tryd.ntmps70
    go_wp2_with fail
    refine a1.mono ?_
    rintro e w' ⟨rfl, h1, h2⟩
    have H1 := Lib.hid h1; have H2 := Lib.hid h2; clear h1 h2
    go_wp2
    go_ret2
    exact ⟨rfl, H1.out, H2.out, trivial⟩
  | ok y =>
    obtain ⟨n, q⟩ := y
    obtain ⟨hn, hpq, hq, _⟩ := upG_ok hu
    rw [hu] at a1
    simp only [nV, uP] at a1
    simp only []
    clear hu
    by_cases h : s.size - q < n
    · simp only [if_pos h]
      rw [show ev B 1 = .iface 123 (.pointer (some (B 1))) from rfl]
      have a2 := fun w hr => left_any g s q w hr hq (by omega)
      have h' : ((s.size - q : Nat) : Int) < (n : Int) := by omega
      generalize s.size - q = l at *
      go_enter Tryd.func70, Tryd.ntmps70
      go_wp2_with fail
      refine a1.mono ?_
      rintro e w' ⟨rfl, h1, h2⟩
      have ha' := HA.out _ h2
      have g1 := (HE.out.wrote h2 hg0 (fun k h => by cases h)).env.cell 1 (by decide)
      have H1 := Lib.hid h1; have H2 := Lib.hid h2; clear h1 h2
      go_wp2_with fail
      refine (a2 _ H1.out).mono ?_
      rintro e w2 ⟨rfl, k, rfl⟩
      go_wp2
      go_quiet (fail)
      go_wp2
      go_ret2
      exact ⟨rfl, H1.out, (H2.out.drewN _).drewN _, trivial⟩
    · simp only [if_neg h]
      rw [show ev B 0 = .nilIface from rfl]
      have a2 := fun w hr => left_any g s q w hr hq (by omega)
      have h' : ¬ ((s.size - q : Nat) : Int) < (n : Int) := by omega
      have hqn : (q : Int) + (n : Int) ≤ (s.size : Int) := by omega
      generalize s.size - q = l at *
      go_enter Tryd.func70, Tryd.ntmps70
      go_wp2_with fail
      refine a1.mono ?_
      rintro e w' ⟨rfl, h1, h2⟩
      have ha' := HA.out _ h2
      obtain ⟨d0, d1, e1, hgl'⟩ := h1.cells
      have H1 := Lib.hid h1; have H2 := Lib.hid h2; clear h1 h2
      go_wp2_with fail
      refine (a2 _ H1.out).mono ?_
      rintro e w2 ⟨rfl, k, rfl⟩
      go_wp2
      go_quiet (fail)
      go_wp2
      go_ret2

      exact ⟨rfl, H1.out.store _, ((H2.out.drewN _).trans (Wrote.store _ _ _)).drewN _, trivial⟩
theorem tC_tG (B : Nat → Addr) (s : ByteArray) (p : Nat) (m : Int) :
    Value.tuple #[if (tC s p m).2.1 = 0 then .string (tC s p m).1 else .string ⟨#[]⟩, ev B (tC s p m).2.1] = tV B (tG s p m) ∧ (if (tC s p m).2.1 = 0 then (tC s p m).2.2 else p) = uP p (tG s p m) := by
  unfold tC tG
  cases hu : upG s p m with
  | error e =>
    rcases upG_err hu with rfl | rfl | rfl <;> exact ⟨rfl, rfl⟩
  | ok y =>
    obtain ⟨n, q⟩ := y
    simp only []
    by_cases h : s.size - q < n
    · simp only [if_pos h]; exact ⟨rfl, rfl⟩
    · simp only [if_neg h]; exact ⟨rfl, rfl⟩
theorem tV_pair (B : Nat → Addr) (x : Except Nat (ByteArray × Nat)) : ∃ u v, tV B x = .tuple #[u, v] := by
  cases x with
  | error e => exact ⟨_, _, rfl⟩
  | ok x => exact ⟨_, _, rfl⟩

set_option maxRecDepth 100000 in
set_option maxHeartbeats 1000000 in
theorem rText_any (B : Nat → Addr) (B0 g : Nat) (s : ByteArray) (p : Nat) (m : Int) (w : World) (hE : EnvB B0 w B) (hg0 : B0 ≤ g) (hR : Rdr w g s p) (hp : p ≤ s.size) (hs : s.size ≤ 4611686018427387904)
    (hm : -9223372036854775808 ≤ m ∧ m ≤ 9223372036854775807) :
    Calls Tryd.prog 50 #[.pointer (some ⟨g, 0, none⟩), .int .i64 m] w fun e w' => e = .returned (tV B (tG s p m)) ∧ Rdr w' g s (uP p (tG s p m)) ∧ Wrote w w' g none none := by
  obtain ⟨b1, b2, b3⟩ := two_boxes w (.pointer (some ⟨g, 0, none⟩)) (.int .i64 m) 42 3
  have hgl := hR.cells.2.2.2
  have a0 := text1_any B B0 g w.heap.size (w.heap.size + 1) s p m _ (hE.below (b3.mono hE.lt)) hg0 (hR.below b3) hp hs hm b1 b2 (by omega)
  have a1 := undone_text B g s p _ _ _ _ (fun _ => True) _ (hR.below b3) a0
  obtain ⟨e1, e2⟩ := tC_tG B s p m
  rw [e1, e2] at a1
  obtain ⟨x, y, e3⟩ := tV_pair B (tG s p m)
  have H3 := Lib.hid (Wrote.of_below b3 g none)
  clear a0 e1 e2 b1 b2 b3 hR hE
  generalize tV B (tG s p m) = V at *
  subst e3
  generalize uP p (tG s p m) = q at *
  go_enter Tryd.func50, Tryd.ntmps50
  go_wp2_with fail
  refine a1.mono ?_
  rintro e w' ⟨rfl, h1, h2, _⟩
  have H1 := Lib.hid h1; have H2 := Lib.hid h2; clear h1 h2
  go_wp2
  go_ret2
  exact ⟨rfl, H1.out, H3.out.trans H2.out⟩
end Go.Proofs.YtnodjcapclkmhaaDoor
