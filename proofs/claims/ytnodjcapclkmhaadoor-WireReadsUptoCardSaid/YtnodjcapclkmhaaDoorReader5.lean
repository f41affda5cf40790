/- The Reader's Upto, Float and Text: walked. -/
import Derived.Test.YtnodjcapclkmhaaDoorReader4
namespace Go.Proofs.YtnodjcapclkmhaaDoor
open Go.RowKit

theorem two_boxes (w : World) (u v : Value) (t1 t2 : TypeId) : ((w.alloc (.cells #[u] t1)).alloc (.cells #[v] t2)).cell? ⟨w.heap.size, 0, none⟩ = some u ∧ ((w.alloc (.cells #[u] t1)).alloc (.cells #[v] t2)).cell? ⟨w.heap.size + 1, 0, none⟩ = some v ∧
    Below w.heap.size w ((w.alloc (.cells #[u] t1)).alloc (.cells #[v] t2)) := by
  have hs : (w.alloc (.cells #[u] t1)).heap.size = w.heap.size + 1 := by simp
  have b2 := Below.new (w.alloc (.cells #[u] t1)) (.cells #[v] t2)
  refine ⟨?_, ?_, (Below.new w _).trans (b2.mono (by omega))⟩
  · have h := (b2.block w.heap.size (by omega)).trans (heap_alloc_new w (.cells #[u] t1))
    unfold World.cell?; rw [h]; rfl
  · have h := heap_alloc_new (w.alloc (.cells #[u] t1)) (.cells #[v] t2)
    rw [hs] at h
    unfold World.cell?; rw [h]; rfl
theorem one_box (w : World) (u : Value) (t1 : TypeId) : (w.alloc (.cells #[u] t1)).cell? ⟨w.heap.size, 0, none⟩ = some u := by
  have h := heap_alloc_new w (.cells #[u] t1)
  unfold World.cell?; rw [h]; rfl

/-- What Upto answers. -/
def nV (B : Nat → Addr) : Except Nat (Nat × Nat) → Value
  | .ok (x, _) => .tuple #[.int .i64 x, .nilIface]
  | .error e => .tuple #[.int .i64 0, ev B e]
theorem upC_upG (B : Nat → Addr) (s : ByteArray) (p : Nat) (n : Int) :
    Value.tuple #[if (upC s p n).2 = 0 then .int .i64 (upC s p n).1 else .int .i64 0, ev B (upC s p n).2] = nV B (upG s p n) ∧ (if (upC s p n).2 = 0 then uP p (uG s p 0 0) else p) = uP p (upG s p n) := by
  unfold upC upG
  cases hu : uG s p 0 0 with
  | error e =>
    simp only []
    rw [if_neg (by rcases uG_err hu with h | h <;> omega), if_neg (by rcases uG_err hu with h | h <;> omega)]
    exact ⟨rfl, rfl⟩
  | ok y =>
    obtain ⟨x, q⟩ := y
    simp only []
    by_cases h : n < (x : Int)
    · simp only [if_pos h]; exact ⟨rfl, rfl⟩
    · simp only [if_neg h]; exact ⟨rfl, rfl⟩

set_option maxRecDepth 100000 in
set_option maxHeartbeats 1000000 in
theorem rUpto_any (B : Nat → Addr) (B0 g : Nat) (s : ByteArray) (p : Nat) (n : Int) (w : World) (hE : EnvB B0 w B) (hg0 : B0 ≤ g) (hR : Rdr w g s p) (hp : p ≤ s.size) (hs : s.size ≤ 9223372036854770000)
    (hn : -9223372036854775808 ≤ n ∧ n ≤ 9223372036854775807) :
    Calls Tryd.prog 49 #[.pointer (some ⟨g, 0, none⟩), .int .i64 n] w fun e w' => e = .returned (nV B (upG s p n)) ∧ Rdr w' g s (uP p (upG s p n)) ∧ Wrote w w' g none none := by
  obtain ⟨b1, b2, b3⟩ := two_boxes w (.pointer (some ⟨g, 0, none⟩)) (.int .i64 n) 42 3
  have hgl := hR.cells.2.2.2
  have a0 := upto1_any B B0 g w.heap.size (w.heap.size + 1) s p n _ (hE.below (b3.mono hE.lt)) hg0 (hR.below b3) hp hs hn b1 b2 (by omega) (by omega)
  have a1 := undone_upto B g s p _ _ _ _ (fun _ => True) _ (hR.below b3) a0
  obtain ⟨e1, e2⟩ := upC_upG B s p n
  rw [e1, e2] at a1
  obtain ⟨x, y, e3⟩ : ∃ x y, nV B (upG s p n) = .tuple #[x, y] := by
    cases upG s p n with
    | error e => exact ⟨_, _, rfl⟩
    | ok x => exact ⟨_, _, rfl⟩
  have H3 := Lib.hid (Wrote.of_below b3 g none)
  clear a0 e1 e2 b1 b2 b3 hR hE
  generalize nV B (upG s p n) = V at *
  subst e3
  generalize uP p (upG s p n) = q at *
  go_enter Tryd.func49, Tryd.ntmps49
  go_wp2_with fail
  refine a1.mono ?_
  rintro e w' ⟨rfl, h1, h2, _⟩
  have H1 := Lib.hid h1; have H2 := Lib.hid h2; clear h1 h2
  go_wp2
  go_ret2
  exact ⟨rfl, H1.out, H3.out.trans H2.out⟩
end Go.Proofs.YtnodjcapclkmhaaDoor
