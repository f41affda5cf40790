/- wire.undone over each of its closures; the Reader's Upto: walked. -/
import Derived.Test.YtnodjcapclkmhaaDoorReader3
import Derived.Test.YtnodjcapclkmhaaDoorWritesW
namespace Go.Proofs.YtnodjcapclkmhaaDoor
open Go.RowKit

set_option maxRecDepth 100000 in
set_option maxHeartbeats 400000 in
theorem undone_upto (B : Nat → Addr) (g : Nat) (s : ByteArray) (p q k : Nat) (v : Value) (caps : Array Value) (X : World → Prop) (w : World) (hR : Rdr w g s p)
    (hc : Calls Tryd.prog 68 caps w fun e w' => e = .returned (.tuple #[v, ev B k]) ∧ Rdr w' g s q ∧ Wrote w w' g none none ∧ X w') :
    Calls Tryd.prog 67 #[.pointer (some ⟨g, 0, none⟩), .func (.func 68) #[] caps] w fun e w' => e = .returned (.tuple #[if k = 0 then v else .int .i64 0, ev B k]) ∧ Rdr w' g s (if k = 0 then q else p) ∧ Wrote w w' g none none ∧ Hid (k = 0 → X w') := by
  obtain ⟨c0, c1, f1, hgl⟩ := hR.cells
  clear hR
  cases k with
  | zero =>
    rw [if_pos rfl, if_pos rfl]
    rw [show ev B 0 = .nilIface from rfl] at hc ⊢
    go_enter Tryd.func67, Tryd.ntmps67
    go_wp2_with fail
    refine hc.mono ?_
    rintro e w' ⟨rfl, h1, h2, h3⟩
    have H1 := Lib.hid h1; have H2 := Lib.hid h2; have H3 := Lib.hid h3; clear h1 h2 h3
    go_wp2
    go_ret2
    exact ⟨rfl, H1.out, H2.out, Lib.hid (fun _ => H3.out)⟩
  | succ k =>
    rw [if_neg (by omega), if_neg (by omega)]
    obtain ⟨a, ha⟩ : ∃ a, ev B (k + 1) = .iface 123 (.pointer (some a)) := ⟨_, rfl⟩
    rw [ha] at hc ⊢
    clear ha
    go_enter Tryd.func67, Tryd.ntmps67
    go_wp2_with fail
    refine hc.mono ?_
    rintro e w' ⟨rfl, h1, h2, h3⟩
    obtain ⟨d0, d1, e1, hgl'⟩ := h1.cells
    have H1 := Lib.hid h1; have H2 := Lib.hid h2; clear h1 h2 h3
    go_wp2
    go_ret2
    exact ⟨rfl, H1.out.store p, H2.out.trans (Wrote.store _ _ _), Lib.hid (fun h => by cases h)⟩

set_option maxRecDepth 100000 in
set_option maxHeartbeats 400000 in
theorem undone_float (B : Nat → Addr) (g : Nat) (s : ByteArray) (p q k : Nat) (v : Value) (caps : Array Value) (X : World → Prop) (w : World) (hR : Rdr w g s p)
    (hc : Calls Tryd.prog 73 caps w fun e w' => e = .returned (.tuple #[v, ev B k]) ∧ Rdr w' g s q ∧ Wrote w w' g none none ∧ X w') :
    Calls Tryd.prog 72 #[.pointer (some ⟨g, 0, none⟩), .func (.func 73) #[] caps] w fun e w' => e = .returned (.tuple #[if k = 0 then v else .float .f32 0, ev B k]) ∧ Rdr w' g s (if k = 0 then q else p) ∧ Wrote w w' g none none ∧ Hid (k = 0 → X w') := by
  obtain ⟨c0, c1, f1, hgl⟩ := hR.cells
  clear hR
  cases k with
  | zero =>
    rw [if_pos rfl, if_pos rfl]
    rw [show ev B 0 = .nilIface from rfl] at hc ⊢
    go_enter Tryd.func72, Tryd.ntmps72
    go_wp2_with fail
    refine hc.mono ?_
    rintro e w' ⟨rfl, h1, h2, h3⟩
    have H1 := Lib.hid h1; have H2 := Lib.hid h2; have H3 := Lib.hid h3; clear h1 h2 h3
    go_wp2
    go_ret2
    exact ⟨rfl, H1.out, H2.out, Lib.hid (fun _ => H3.out)⟩
  | succ k =>
    rw [if_neg (by omega), if_neg (by omega)]
    obtain ⟨a, ha⟩ : ∃ a, ev B (k + 1) = .iface 123 (.pointer (some a)) := ⟨_, rfl⟩
    rw [ha] at hc ⊢
    clear ha
    go_enter Tryd.func72, Tryd.ntmps72
    go_wp2_with fail
    refine hc.mono ?_
    rintro e w' ⟨rfl, h1, h2, h3⟩
    obtain ⟨d0, d1, e1, hgl'⟩ := h1.cells
    have H1 := Lib.hid h1; have H2 := Lib.hid h2; clear h1 h2 h3
    go_wp2
    go_ret2
    exact ⟨rfl, H1.out.store p, H2.out.trans (Wrote.store _ _ _), Lib.hid (fun h => by cases h)⟩

set_option maxRecDepth 100000 in
set_option maxHeartbeats 400000 in
theorem undone_text (B : Nat → Addr) (g : Nat) (s : ByteArray) (p q k : Nat) (v : Value) (caps : Array Value) (X : World → Prop) (w : World) (hR : Rdr w g s p)
    (hc : Calls Tryd.prog 70 caps w fun e w' => e = .returned (.tuple #[v, ev B k]) ∧ Rdr w' g s q ∧ Wrote w w' g none none ∧ X w') :
    Calls Tryd.prog 69 #[.pointer (some ⟨g, 0, none⟩), .func (.func 70) #[] caps] w fun e w' => e = .returned (.tuple #[if k = 0 then v else .string ⟨#[]⟩, ev B k]) ∧ Rdr w' g s (if k = 0 then q else p) ∧ Wrote w w' g none none ∧ Hid (k = 0 → X w') := by
  obtain ⟨c0, c1, f1, hgl⟩ := hR.cells
  clear hR
  cases k with
  | zero =>
    rw [if_pos rfl, if_pos rfl]
    rw [show ev B 0 = .nilIface from rfl] at hc ⊢
    go_enter Tryd.func69, Tryd.ntmps69
    go_wp2_with fail
    refine hc.mono ?_
    rintro e w' ⟨rfl, h1, h2, h3⟩
    have H1 := Lib.hid h1; have H2 := Lib.hid h2; have H3 := Lib.hid h3; clear h1 h2 h3
    go_wp2
    go_ret2
    exact ⟨rfl, H1.out, H2.out, Lib.hid (fun _ => H3.out)⟩
  | succ k =>
    rw [if_neg (by omega), if_neg (by omega)]
    obtain ⟨a, ha⟩ : ∃ a, ev B (k + 1) = .iface 123 (.pointer (some a)) := ⟨_, rfl⟩
    rw [ha] at hc ⊢
    clear ha
    go_enter Tryd.func69, Tryd.ntmps69
    go_wp2_with fail
    refine hc.mono ?_
    rintro e w' ⟨rfl, h1, h2, h3⟩
    obtain ⟨d0, d1, e1, hgl'⟩ := h1.cells
    have H1 := Lib.hid h1; have H2 := Lib.hid h2; clear h1 h2 h3
    go_wp2
    go_ret2
    exact ⟨rfl, H1.out.store p, H2.out.trans (Wrote.store _ _ _), Lib.hid (fun h => by cases h)⟩

set_option maxRecDepth 100000 in
set_option maxHeartbeats 400000 in
theorem undone_texts (B : Nat → Addr) (g : Nat) (s : ByteArray) (p q k : Nat) (v : Value) (caps : Array Value) (X : World → Prop) (w : World) (hR : Rdr w g s p)
    (hc : Calls Tryd.prog 48 caps w fun e w' => e = .returned (.tuple #[v, ev B k]) ∧ Rdr w' g s q ∧ Wrote w w' g none none ∧ X w') :
    Calls Tryd.prog 47 #[.pointer (some ⟨g, 0, none⟩), .func (.func 48) #[] caps] w fun e w' => e = .returned (.tuple #[if k = 0 then v else .slice none 0 0, ev B k]) ∧ Rdr w' g s (if k = 0 then q else p) ∧ Wrote w w' g none none ∧ Hid (k = 0 → X w') := by
  obtain ⟨c0, c1, f1, hgl⟩ := hR.cells
  clear hR
  cases k with
  | zero =>
    rw [if_pos rfl, if_pos rfl]
    rw [show ev B 0 = .nilIface from rfl] at hc ⊢
    go_enter Tryd.func47, Tryd.ntmps47
    go_wp2_with fail
    refine hc.mono ?_
    rintro e w' ⟨rfl, h1, h2, h3⟩
    have H1 := Lib.hid h1; have H2 := Lib.hid h2; have H3 := Lib.hid h3; clear h1 h2 h3
    go_wp2
    go_ret2
    exact ⟨rfl, H1.out, H2.out, Lib.hid (fun _ => H3.out)⟩
  | succ k =>
    rw [if_neg (by omega), if_neg (by omega)]
    obtain ⟨a, ha⟩ : ∃ a, ev B (k + 1) = .iface 123 (.pointer (some a)) := ⟨_, rfl⟩
    rw [ha] at hc ⊢
    clear ha
    go_enter Tryd.func47, Tryd.ntmps47
    go_wp2_with fail
    refine hc.mono ?_
    rintro e w' ⟨rfl, h1, h2, h3⟩
    obtain ⟨d0, d1, e1, hgl'⟩ := h1.cells
    have H1 := Lib.hid h1; have H2 := Lib.hid h2; clear h1 h2 h3
    go_wp2
    go_ret2
    exact ⟨rfl, H1.out.store p, H2.out.trans (Wrote.store _ _ _), Lib.hid (fun h => by cases h)⟩

theorem uG_err {s : ByteArray} {p e : Nat} (h : uG s p 0 0 = .error e) : e = 1 ∨ e = 2 := by
  have : ∀ (n i x : Nat), n = s.size - (p + i) → ∀ e, uG s p i x = .error e → e = 1 ∨ e = 2 := by
    intro n
    induction n with
    | zero =>
      intro i x hn e h
      rw [uG, dif_neg (by omega)] at h
      exact .inl (Except.error.inj h).symm
    | succ n ih =>
      intro i x hn e h
      rw [uG_at s p i x (by omega)] at h
      split at h
      · exact .inr (Except.error.inj h).symm
      · split at h
        · split at h
          · exact .inr (Except.error.inj h).symm
          · cases h
        · exact ih (i + 1) _ (by omega) e h
  exact this _ 0 0 rfl e h

/-- A varint that is at most n. -/
def upG (s : ByteArray) (p : Nat) (n : Int) : Except Nat (Nat × Nat) := match uG s p 0 0 with
  | .error e => .error e
  | .ok (x, q) => if n < (x : Int) then .error 3 else .ok (x, q)
/-- What the closure answers: the number and the error's number. -/
def upC (s : ByteArray) (p : Nat) (n : Int) : Int × Nat := match uG s p 0 0 with
  | .error e => (0, e)
  | .ok (x, _) => if n < (x : Int) then (wrap64 x, 3) else (x, 0)

set_option maxRecDepth 100000 in
set_option maxHeartbeats 1000000 in
theorem upto1_any (B : Nat → Addr) (B0 g a b : Nat) (s : ByteArray) (p : Nat) (n : Int) (w : World) (hE : EnvB B0 w B) (hg0 : B0 ≤ g) (hR : Rdr w g s p) (hp : p ≤ s.size) (hs : s.size ≤ 9223372036854770000)
    (hn : -9223372036854775808 ≤ n ∧ n ≤ 9223372036854775807) (ha : w.cell? ⟨a, 0, none⟩ = some (.pointer (some ⟨g, 0, none⟩))) (hb : w.cell? ⟨b, 0, none⟩ = some (.int .i64 n)) (_hag : a ≠ g) (hbg : b ≠ g) :
    Calls Tryd.prog 68 #[.pointer (some ⟨a, 0, none⟩), .pointer (some ⟨b, 0, none⟩)] w fun e w' => e = .returned (.tuple #[.int .i64 (upC s p n).1, ev B (upC s p n).2]) ∧ Rdr w' g s (uP p (uG s p 0 0)) ∧ Wrote w w' g none none ∧ True := by
  have a1 := rUint_any B B0 g s p w hE hg0 hR hp hs
  have HE := Lib.hid hE; clear hE hR
  have HB := Lib.hid (show ∀ w1, Wrote w w1 g none none → w1.cell? ⟨b, 0, none⟩ = some (.int .i64 n) from fun w1 h => (h.cell (World.block_lt_of_cell? w _ hb) hbg (by simp)).trans hb)
  have hn1 := hn.1; have hn2 := hn.2
  clear hn
  unfold upC
  cases hu : uG s p 0 0 with
  | error e =>
    rw [hu] at a1
    simp only [uV, uP] at a1
    simp only [uP]
    obtain ⟨c, hc⟩ : ∃ c, ev B e = .iface 123 (.pointer (some c)) := by rcases uG_err hu with rfl | rfl <;> exact ⟨_, rfl⟩
    rw [hc] at a1 ⊢
    clear hc hu
    go_enter Tryd.func68, Tryd.ntmps68
    go_wp2_with fail
    refine a1.mono ?_
    rintro e w' ⟨rfl, h1, h2⟩
    have H1 := Lib.hid h1; have H2 := Lib.hid h2; clear h1 h2
    go_wp2
    go_ret2
    exact ⟨rfl, H1.out, H2.out, trivial⟩
  | ok y =>
    obtain ⟨x, q⟩ := y
    obtain ⟨hx, _, _⟩ := uG_ok hu
    rw [hu] at a1
    simp only [uV, uP] at a1
    simp only [uP]
    clear hu
    by_cases h : n < (x : Int)
    · rw [if_pos h]
      rw [show ev B 3 = .iface 123 (.pointer (some (B 4))) from rfl]
      by_cases h0 : n < 0
      · go_enter Tryd.func68, Tryd.ntmps68
        go_wp2_with fail
        refine a1.mono ?_
        rintro e w' ⟨rfl, h1, h2⟩
        have hb' := HB.out _ h2
        have g4 := (HE.out.wrote h2 hg0 (fun k h => by cases h)).env.cell 4 (by decide)
        have H1 := Lib.hid h1; have H2 := Lib.hid h2; clear h1 h2
        go_wp2
        go_ret2
        exact ⟨rfl, H1.out, H2.out, trivial⟩
      · have kn : IntKind.u64.wrap n = n := by rw [IntKind.wrap_u64]; omega
        go_enter Tryd.func68, Tryd.ntmps68
        go_wp2_with fail
        refine a1.mono ?_
        rintro e w' ⟨rfl, h1, h2⟩
        have hb' := HB.out _ h2
        have g4 := (HE.out.wrote h2 hg0 (fun k h => by cases h)).env.cell 4 (by decide)
        have H1 := Lib.hid h1; have H2 := Lib.hid h2; clear h1 h2
        go_wp2
        trace_state
        go_ret2
        exact ⟨rfl, H1.out, H2.out, trivial⟩
    · rw [if_neg h]
      have h0 : ¬ n < 0 := by omega
      have kn : IntKind.u64.wrap n = n := by rw [IntKind.wrap_u64]; omega
      rw [show ev B 0 = .nilIface from rfl]
      go_enter Tryd.func68, Tryd.ntmps68
      go_wp2_with fail
      refine a1.mono ?_
      rintro e w' ⟨rfl, h1, h2⟩
      have hb' := HB.out _ h2
      have H1 := Lib.hid h1; have H2 := Lib.hid h2; clear h1 h2
      go_wp2
      trace_state
      go_ret2
      exact ⟨rfl, H1.out, H2.out, trivial⟩
end Go.Proofs.YtnodjcapclkmhaaDoor
