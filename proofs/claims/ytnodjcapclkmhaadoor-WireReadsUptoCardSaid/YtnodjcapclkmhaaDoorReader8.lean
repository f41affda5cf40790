/- The Reader's Texts: walked: the list that is handed out is a row of the call's own. -/
import Derived.Test.YtnodjcapclkmhaaDoorReader7
namespace Go.Proofs.YtnodjcapclkmhaaDoor
open Go.RowKit

/-- n texts from q on, behind those of L. -/
def lsA (s : ByteArray) (m : Int) : Nat → Nat → List ByteArray → Except Nat (List ByteArray × Nat)
  | 0, q, L => .ok (L, q)
  | n + 1, q, L => match tG s q m with
    | .error e => .error e
    | .ok (x, r) => lsA s m n r (L ++ [x])
theorem lsA_ok {s x : ByteArray} {m : Int} {n q r : Nat} {L : List ByteArray} (h : tG s q m = .ok (x, r)) : lsA s m (n + 1) q L = lsA s m n r (L ++ [x]) := by
  show (match tG s q m with | .error e => Except.error e | .ok (x, r) => lsA s m n r (L ++ [x])) = _
  rw [h]
theorem lsA_err {s : ByteArray} {m : Int} {n q e : Nat} {L : List ByteArray} (h : tG s q m = .error e) : lsA s m (n + 1) q L = .error e := by
  show (match tG s q m with | .error e => Except.error e | .ok (x, r) => lsA s m n r (L ++ [x])) = _
  rw [h]
/-- A list of at most c texts of at most m bytes each. -/
def xsG (s : ByteArray) (p : Nat) (c m : Int) : Except Nat (List ByteArray × Nat) := match upG s p c with
  | .error e => .error e
  | .ok (n, q) => lsA s m n q []
theorem tG_err {s : ByteArray} {p e : Nat} {m : Int} (h : tG s p m = .error e) : e = 1 ∨ e = 2 ∨ e = 3 := by
  unfold tG at h
  cases hu : upG s p m with
  | error e' => rw [hu] at h; obtain rfl := Except.error.inj h; exact upG_err hu
  | ok y =>
    obtain ⟨n, q⟩ := y
    rw [hu] at h
    simp only [] at h
    split at h
    · exact .inl (Except.error.inj h).symm
    · cases h
theorem tG_ok {s x : ByteArray} {p r : Nat} {m : Int} (h : tG s p m = .ok (x, r)) : p < r ∧ r ≤ s.size := by
  unfold tG at h
  cases hu : upG s p m with
  | error e' => rw [hu] at h; cases h
  | ok y =>
    obtain ⟨n, q⟩ := y
    obtain ⟨_, h1, h2, _⟩ := upG_ok hu
    rw [hu] at h
    simp only [] at h
    split at h
    · cases h
    · obtain ⟨rfl, rfl⟩ := Prod.mk.inj (Except.ok.inj h)
      omega
/-- v is a list of the texts L of its own, from base on. -/
def ownsT (w : World) (base : Nat) (v : Value) (L : List ByteArray) : Prop := w.ownsRow base 9 1 v L.length (L.map Value.string)
theorem Wrote.grown {w w' : World} {g : Nat} (h : Wrote w w' g none none) : w.grownBy w' (some g) := ⟨h.os, h.tape, h.output, h.size, fun k hk hne => h.block k hk (fun e => hne (by rw [e])) (by simp)⟩
theorem ownsT.wrote {w w' : World} {base g : Nat} {v : Value} {L : List ByteArray} (h : ownsT w base v L) (hw : Wrote w w' g none none) (hg : g < base) : ownsT w' base v L :=
  World.ownsRow.kept h hw.grown (by
    cases hv : v.ownBlock with
    | none => exact .inl rfl
    | some k => exact .inr (fun e => by have := (World.ownsRow.lt h k hv).1; have := Option.some.inj e; omega))
theorem ownsT.nil (w : World) (base : Nat) : ownsT w base (.slice none 0 0) [] := ⟨rfl, .inl ⟨rfl, rfl⟩⟩
theorem wrote_grown {w wr w2 : World} {g : Nat} {b : Option Nat} (h : Wrote w wr g none none) (hg : wr.grownBy w2 b) (hb : ∀ k, b = some k → w.heap.size ≤ k) : Wrote w w2 g none none :=
  ⟨hg.os.trans h.os, hg.tape.trans h.tape, hg.output.trans h.output, Nat.le_trans h.size hg.size, fun k hk hne _ => (hg.block k (Nat.lt_of_lt_of_le hk h.size) (fun e => by have := hb k e.symm; omega)).trans (h.block k hk hne (by simp)), .inl rfl⟩
theorem rdr_grown {w w2 : World} {g : Nat} {b : Option Nat} {s : ByteArray} {p : Nat} (h : Rdr w g s p) (hg : w.grownBy w2 b) (hb : b ≠ some g) : Rdr w2 g s p :=
  (hg.block g h.cells.2.2.2 (fun e => hb e.symm)).trans h

section
variable {P : Program} {w : World} {ops : Array Oper} {rest : List Oper} {o : Oper} {a : Act} {Q : Exit → Act → World → Prop}
/-- One text behind. -/
theorem append_txt (hgd : o.guard = none) (s x : Operand) (t : TypeId)
    (ho : o.op = .call { callee := .builtin .append, args := #[s, x], argTypes := #[t, t] })
    (B : Nat) (ht : P.underlying t = some (.slice 9)) (hi : (P.info? 9).map (fun i => (i.zero, i.size, i.bytes)) = some (some (.string ⟨#[]⟩), 1, 16))
    (v : Value) (L : List ByteArray) (hs : a.eval s = v) (hown : ownsT w B v L) (b : ByteArray) (hx : a.eval x = .slice (some ⟨w.heap.size, 0, none⟩) 1 1)
    (hlen : L.length + 1 ≤ 8796093022208) (hbase : B ≤ w.heap.size)
    (h : ∀ k cap w', ownsT w' B (.slice (some ⟨k, 0, none⟩) (L.length + 1) cap) (L ++ [b]) → w.grownBy w' v.ownBlock → wpList P ops Q rest (a.put o.dst (.slice (some ⟨k, 0, none⟩) (L.length + 1) cap)) w') :
    wpList P ops Q (o :: rest) a (w.alloc (.cells #[.string b] 9)) := by
  obtain ⟨i0, hi0, hz0, hz1, hz2⟩ := info_parts hi
  refine wpList_append_lies _ hgd s x t ho B 9 i0 (.string ⟨#[]⟩) 1 16 ht hi0 hz0 hz1 hz2 rfl (by decide) v L.length (L.map Value.string) hs (World.ownsRow.alloc hown _) ⟨w.heap.size, 0, none⟩ 1 1 [.string b] hx rfl (cell_one_new w (.string b) 9) ?_ (by omega) ?_ (by omega) (by simp; omega) _ rfl ?_
  · intro u hu; simp at hu; subst hu; rfl
  · unfold maxLen; omega
  · intro k cap w' h1 hg hat _
    refine h k cap w' ?_ (World.grownBy.trans (World.grownBy_alloc w _ _) hg)
    unfold ownsT
    simpa using h1
end
/-- What the closure leaves. -/
def XPost (B : Nat → Addr) (g : Nat) (s : ByteArray) (r : Except Nat (List ByteArray × Nat)) (w : World) (e : Ending) (w' : World) : Prop :=
  (∃ k, r = .error k ∧ (k = 1 ∨ k = 2 ∨ k = 3) ∧ e = .returned (.tuple #[.slice none 0 0, ev B k]) ∧ (∃ q, Rdr w' g s q) ∧ Wrote w w' g none none) ∨
  (∃ L q v, r = .ok (L, q) ∧ q ≤ s.size ∧ L.length ≤ s.size ∧ e = .returned (.tuple #[v, .nilIface]) ∧ Rdr w' g s q ∧ Wrote w w' g none none ∧ ownsT w' w.heap.size v L)
theorem XPost.bad {B : Nat → Addr} {g q k : Nat} {s : ByteArray} {r : Except Nat (List ByteArray × Nat)} {w w' : World} {e : Ending} (h : r = .error k) (hk : k = 1 ∨ k = 2 ∨ k = 3) (he : e = .returned (.tuple #[.slice none 0 0, ev B k])) (hr : Rdr w' g s q) (hw : Wrote w w' g none none) : XPost B g s r w e w' :=
  .inl ⟨k, h, hk, he, ⟨q, hr⟩, hw⟩
theorem XPost.good {B : Nat → Addr} {g q : Nat} {s : ByteArray} {r : Except Nat (List ByteArray × Nat)} {w w' : World} {e : Ending} {L : List ByteArray} {v : Value} (h : r = .ok (L, q)) (hq : q ≤ s.size) (hl : L.length ≤ s.size) (he : e = .returned (.tuple #[v, .nilIface])) (hr : Rdr w' g s q) (hw : Wrote w w' g none none) (ho : ownsT w' w.heap.size v L) : XPost B g s r w e w' :=
  .inr ⟨L, q, v, h, hq, hl, he, hr, hw, ho⟩

/-- The round's facts. -/
structure Rd (B : Nat → Addr) (g : Nat) (s : ByteArray) (m : Int) (R : Except Nat (List ByteArray × Nat)) (w wr : World) (v : Value) (n q : Nat) (L : List ByteArray) : Prop where
  res : R = lsA s m n q L
  own : ownsT wr w.heap.size v L
  rdr : Rdr wr g s q
  wr : Wrote w wr g none none
  le : q ≤ s.size
  len : L.length ≤ q

set_option maxRecDepth 100000 in
set_option maxHeartbeats 2000000 in
theorem texts1_any (B : Nat → Addr) (B0 g a b c : Nat) (s : ByteArray) (p : Nat) (ct m : Int) (w : World) (hE : EnvB B0 w B) (hg0 : B0 ≤ g) (hR : Rdr w g s p) (hp : p ≤ s.size) (hs : s.size ≤ 4398046511104)
    (hct : -9223372036854775808 ≤ ct ∧ ct ≤ 9223372036854775807) (hm : -9223372036854775808 ≤ m ∧ m ≤ 9223372036854775807) (ha : w.cell? ⟨a, 0, none⟩ = some (.pointer (some ⟨g, 0, none⟩))) (hb : w.cell? ⟨b, 0, none⟩ = some (.int .i64 ct)) (hc : w.cell? ⟨c, 0, none⟩ = some (.int .i64 m)) (hag : a ≠ g) (hcg : c ≠ g) :
    Calls Tryd.prog 48 #[.pointer (some ⟨a, 0, none⟩), .pointer (some ⟨b, 0, none⟩), .pointer (some ⟨c, 0, none⟩)] w (XPost B g s (xsG s p ct m) w) := by
  have a1 := rUpto_any B B0 g s p ct w hE hg0 hR hp (by omega) hct
  have HE := Lib.hid hE
  have hgl := hR.cells.2.2.2
  clear hE hR
  have HA := Lib.hid (show ∀ w1, Wrote w w1 g none none → w1.cell? ⟨a, 0, none⟩ = some (.pointer (some ⟨g, 0, none⟩)) ∧ w1.cell? ⟨c, 0, none⟩ = some (.int .i64 m) from fun w1 h => ⟨(h.cell (World.block_lt_of_cell? w _ ha) hag (by simp)).trans ha, (h.cell (World.block_lt_of_cell? w _ hc) hcg (by simp)).trans hc⟩)
  clear hc
  cases hu : upG s p ct with
  | error e =>
    have HX := Lib.hid (show xsG s p ct m = .error e by unfold xsG; rw [hu])
    rw [hu] at a1
    simp only [nV, uP] at a1
    have HK := Lib.hid (upG_err hu)
    obtain ⟨d, hd⟩ : ∃ d, ev B e = .iface 123 (.pointer (some d)) := by rcases upG_err hu with rfl | rfl | rfl <;> exact ⟨_, rfl⟩
    rw [hd] at a1
    have HD := Lib.hid hd
    clear hd hu hm hct
    generalize xsG s p ct m = R at *
    go_enter Tryd.func48, Tryd.ntmps48
    go_wp2_with fail
    refine a1.mono ?_
    rintro e w' ⟨rfl, h1, h2⟩
    have H1 := Lib.hid h1; have H2 := Lib.hid h2; clear h1 h2
    go_wp2
    go_ret2
    exact XPost.bad HX.out HK.out (by rw [HD.out]; rfl) H1.out H2.out
  | ok y =>
    obtain ⟨n, q⟩ := y
    obtain ⟨hn, hpq, hq, _⟩ := upG_ok hu
    have HX := Lib.hid (show xsG s p ct m = lsA s m n q [] by unfold xsG; rw [hu])
    rw [hu] at a1
    simp only [nV, uP] at a1
    clear hu
    generalize xsG s p ct m = R at *
    go_enter Tryd.func48, Tryd.ntmps48
    go_wp2_with fail
    refine a1.mono ?_
    rintro e w1 ⟨rfl, h1, h2⟩
    have H1 := Lib.hid h1; have H2 := Lib.hid h2; clear h1 h2 a1
    go_wp2
    go_loopw [7, 20, 8, 9] (fun vl vi _ _ wr => ∃ (i q' : Nat) (L : List ByteArray), i ≤ n ∧ vi = .int .i64 i ∧ Hid (Rd B g s m R w wr vl (n - i) q' L)) (fun _ vi _ _ _ => n - (intOf vi).toNat)
    case atStart => exact ⟨0, q, [], Nat.zero_le _, rfl, HX.out, ownsT.nil _ _, H1.out, H2.out, hq, Nat.zero_le _⟩
    case round =>
      obtain ⟨i, q', L, hi, rfl, hh⟩ := hrel
      have HRW := (HE.out.wrote hh.out.wr hg0 (fun k h => by cases h))
      have a3 := rText_any B B0 g s q' m wr HRW hg0 hh.out.rdr hh.out.le (by omega) hm
      have HQ := Lib.hid hm
      have hn2 : (n : Int) ≤ 9223372036854775807 := Int.le_trans hn hct.2
      clear HRW hm hct ha hb
      obtain ⟨ca, cc⟩ := HA.out _ hh.out.wr
      by_cases hlt : i < n
      · have hr := hh.out.res
        rw [show n - i = (n - (i + 1)) + 1 by omega] at hr
        cases ht : tG s q' m with
        | error e =>
          have HR := Lib.hid (hr.trans (lsA_err ht))
          rw [ht] at a3
          simp only [tV, uP] at a3
          have HK := Lib.hid (tG_err ht)
          obtain ⟨d, hd⟩ : ∃ d, ev B e = .iface 123 (.pointer (some d)) := by rcases tG_err ht with rfl | rfl | rfl <;> exact ⟨_, rfl⟩
          rw [hd] at a3
          have HD := Lib.hid hd
          clear hd ht hr
          go_wp2_with fail
          refine a3.mono ?_
          rintro e w2 ⟨rfl, h1, h2⟩
          have H3 := Lib.hid h1; have H4 := Lib.hid (hh.out.wr.trans h2); clear h1 h2
          go_wp2
          go_ret2
          exact XPost.bad HR.out HK.out (by rw [HD.out]; rfl) H3.out H4.out
        | ok y =>
          obtain ⟨x, r⟩ := y
          have HR := Lib.hid (hr.trans (lsA_ok ht))
          obtain ⟨hqr, hrs⟩ := tG_ok ht
          rw [ht] at a3
          simp only [tV, uP] at a3
          clear ht hr
          go_wp2_with fail
          refine a3.mono ?_
          rintro e w2 ⟨rfl, h1, h2⟩
          have hown := hh.out.own.wrote h2 hgl
          have hlen := hh.out.len
          have hsz := (hh.out.wr.trans h2).size
          have H3 := Lib.hid h1; have H4 := Lib.hid (hh.out.wr.trans h2); clear h1 h2
          go_wp2_with (first | (at_builtin; refine append_txt rfl _ _ 28 rfl w.heap.size Tryd.underlying28 info9 _ _ rfl hown _ rfl (by omega) (by omega) ?_))
          intro k cap w3 ho hgr
          have hlt2 := World.ownsRow.lt hown
          have H5 := Lib.hid ho
          have H6 := Lib.hid (wrote_grown H4.out hgr (fun k hk => (hlt2 k hk).1))
          have H7 := Lib.hid (rdr_grown H3.out hgr (fun e => by have := (hlt2 g e).1; omega))
          clear ho hgr hlt2 hown
          go_wp2
          go_roundw
          case rel => exact ⟨i + 1, r, L ++ [x], by omega, by go_num, HR.out, H5.out, H7.out, H6.out, hrs, by rw [List.length_append]; simp; omega⟩
          case measure => simp [intOf]; omega
      · obtain rfl : i = n := by omega
        have HR := Lib.hid (show R = .ok (L, q') by have := hh.out.res; rwa [Nat.sub_self] at this)
        clear a3
        go_wp2
        go_ret2
        exact XPost.good HR.out hh.out.le (Nat.le_trans hh.out.len hh.out.le) rfl hh.out.rdr hh.out.wr hh.out.own
end Go.Proofs.YtnodjcapclkmhaaDoor
