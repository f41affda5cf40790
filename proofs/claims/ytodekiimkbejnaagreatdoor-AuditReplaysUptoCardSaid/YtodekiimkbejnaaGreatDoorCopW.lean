/- remitlaw28.copies: walked. -/
import Derived.Test.YtodekiimkbejnaaGreatDoorCopS
namespace Go.Proofs.YtodekiimkbejnaaGreatDoor
open Go.RowKit Go.WideMaps Go.Maps

set_option maxRecDepth 100000 in
set_option maxHeartbeats 4000000 in
theorem copies_any (A : Option Addr) (n c : Nat) (ps : Nat → PostV) (w : World) (hP : PostsAt w A n ps) (hn : n ≤ 274877906944) (hl : ∀ i, i < n → (ps i).n ≤ 4398046511103) :
    Calls Tryz.prog 5 #[.slice A n c] w fun e w' => ∃ v qs, e = .returned v ∧ Cp w.heap.size ps w w' v n qs := by
  have HP := Lib.hid (fun w' (hb : Below w.heap.size w w') => hP.below hb)
  have HL := Lib.hid hl
  clear hP hl
  go_enter Tryz.func5, Tryz.ntmps5
  go_wp2_with fail
  have HC0 := Lib.hid (show Cp w.heap.size ps w (w.alloc (.cells #[] 35)) (.slice (some ⟨w.heap.size, 0, none⟩) 0 0) 0 ps from
    ⟨⟨rfl, .inr ⟨_, 0, #[], rfl, Nat.le_refl _, heap_alloc_new w _, Nat.le_refl _, Nat.zero_le _, rfl, rfl⟩⟩, fun i h => by omega, fun i h => by omega, ⟨Nat.le_refl _, by simp⟩, Below.new _ _⟩)
  obtain ⟨N, hN⟩ : ∃ N, N = w.heap.size := ⟨_, rfl⟩
  rw [← hN]
  rw [← hN] at HC0
  generalize w.alloc (.cells #[] 35) = w0 at *
  have HNN := Lib.hid hN
  clear hN
  go_loopw [3, 9, 5] (fun vo vi _ wr => ∃ (k : Nat) (qs : Nat → PostV), vi = .int .i64 k ∧ k ≤ n ∧ Hid (Cp N ps w wr vo k qs)) (fun _ vi _ _ => n - (intOf vi).toNat)
  case atStart => exact ⟨0, ps, rfl, Nat.zero_le _, Lib.hid (HNN.out ▸ HC0.out)⟩
  case round =>
    obtain ⟨k, qs, rfl, hk, hh⟩ := hrel
    have hw := hh.out.bel
    have hsz := hw.size
    by_cases h : k < n
    · obtain ⟨g, o, rfl, hg, hc⟩ := HP.out _ hw (by omega)
      obtain ⟨⟨c0, c1, c2, c3⟩, hsd, hlg, hla⟩ := hc k h
      have hnb := Below.new wr (.cells #[.string (ps k).id, .int .i64 (ps k).tick, .string (ps k).note, .slice (ps k).A (ps k).n (ps k).c] 35)
      have hlx := hlg.below hla hnb
      have HLX := Lib.hid hlx
      obtain ⟨wx, hwx⟩ : ∃ wx, wx = wr.alloc (.cells #[.string (ps k).id, .int .i64 (ps k).tick, .string (ps k).note, .slice (ps k).A (ps k).n (ps k).c] 35) := ⟨_, rfl⟩
      have hbx := heap_alloc_new wr (.cells #[.string (ps k).id, .int .i64 (ps k).tick, .string (ps k).note, .slice (ps k).A (ps k).n (ps k).c] 35)
      rw [← hwx] at hbx
      have HWX := Lib.hid hwx
      have hzx : wr.heap.size < wx.heap.size := by rw [hwx]; simp
      have f3 : wx.cell? ⟨wr.heap.size, 3, none⟩ = some (.slice (ps k).A (ps k).n (ps k).c) := by unfold World.cell?; rw [hbx]; rfl
      have HBX := Lib.hid hbx
      have HH := hh
      clear hh hw hc hnb hlx hlg hbx hwx
      go_wp2_with fail
      rw [← HWX.out]
      have hly := HLX.out
      rw [← HWX.out] at hly
      have HLY := Lib.hid (fun W (hb : Below wx.heap.size wx W) => hly.below (B := wx.heap.size) (w' := W) (fun hpos a e => by have := hla hpos a e; omega) hb)
      clear hly
      have hm : (ps k).n ≤ 4398046511103 := HL.out k h
      generalize hnn : (ps k).n = m at *
      have HNM := Lib.hid hnn
      clear hnn HLX
      have hfz : wx.frozen? ⟨wr.heap.size, 3, none⟩ = false := by unfold World.frozen?; rw [HBX.out]; rfl
      have HKP := Lib.hid (fun W (hb : Below wx.heap.size wx W) => (show W.cell? ⟨wr.heap.size, 3, none⟩ = some (.slice (ps k).A m (ps k).c) ∧ W.frozen? ⟨wr.heap.size, 3, none⟩ = false from
        ⟨(hb.cell (by exact hzx)).trans f3, by unfold World.frozen?; rw [hb.block wr.heap.size hzx]; unfold World.frozen? at hfz; exact hfz⟩))
      have HS0 := Lib.hid ((Below.refl wx.heap.size wx).drew)
      clear f3 hfz
      refine wp_region_E (S := fun W => Below wx.heap.size wx W) (late := [12]) (by kernel_rfl) ?_
      refine wpAnyE_take (i := 1) (v := ?v1) rfl (by kernel_rfl) (by kernel_rfl) (by kernel_rfl) (by kernel_rfl) (by kernel_rfl) (fun _ _ _ h => h) (Or.inl ⟨by rfl, ?y1⟩) HS0.out ?_
      case y1 => intro W hSw; clear hSw; go_simp; try with_reducible rfl
      try simp only [Act.put, List.setIfInBounds_toArray, List.set_cons_zero, List.set_cons_succ]
      refine wpAnyE_take (i := 2) (v := ?v2) rfl (by kernel_rfl) (by kernel_rfl) (by kernel_rfl) (by kernel_rfl) (by kernel_rfl) (fun _ _ _ h => h) (Or.inl ⟨by rfl, ?y2⟩) HS0.out ?_
      case y2 => intro W hSw; obtain ⟨q1, q2⟩ := HKP.out W hSw; clear hSw q2; go_simp; with_reducible rfl
      try simp only [Act.put, List.setIfInBounds_toArray, List.set_cons_zero, List.set_cons_succ]
      refine wpAnyE_take (i := 4) (v := ?v4) rfl (by kernel_rfl) (by kernel_rfl) (by kernel_rfl) (by kernel_rfl) (by kernel_rfl) (fun _ _ _ h => h) (Or.inl ⟨by rfl, ?y4⟩) HS0.out ?_
      case y4 => intro W hSw; clear hSw; go_simp; try with_reducible rfl
      try simp only [Act.put, List.setIfInBounds_toArray, List.set_cons_zero, List.set_cons_succ]
      refine wpAnyE_take (i := 7) (v := ?v7) rfl (by kernel_rfl) (by kernel_rfl) (by kernel_rfl) (by kernel_rfl) (by kernel_rfl) (fun _ _ _ h => h) (Or.inl ⟨by rfl, ?y7⟩) HS0.out ?_
      case y7 => intro W hSw; clear hSw; go_simp; try with_reducible rfl
      try simp only [Act.put, List.setIfInBounds_toArray, List.set_cons_zero, List.set_cons_succ]
      refine wpAnyE_take (i := 8) (v := ?v8) rfl (by kernel_rfl) (by kernel_rfl) (by kernel_rfl) (by kernel_rfl) (by kernel_rfl) (fun _ _ _ h => h) (Or.inl ⟨by rfl, ?y8⟩) HS0.out ?_
      case y8 => intro W hSw; obtain ⟨q1, q2⟩ := HKP.out W hSw; clear hSw q2; go_simp; with_reducible rfl
      try simp only [Act.put, List.setIfInBounds_toArray, List.set_cons_zero, List.set_cons_succ]
      refine wpAnyE_take (i := 9) (v := ?v9) rfl (by kernel_rfl) (by kernel_rfl) (by kernel_rfl) (by kernel_rfl) (by kernel_rfl) (fun _ _ _ h => h) (Or.inl ⟨by rfl, ?y9⟩) HS0.out ?_
      case y9 => intro W hSw; clear hSw; go_simp; try with_reducible rfl
      try simp only [Act.put, List.setIfInBounds_toArray, List.set_cons_zero, List.set_cons_succ]
      refine wpAnyE_ready (rs := [0, 5]) (by kernel_rfl) (by simp) ?_
      refine (AllReadyE.cons (i := 0) (o := { dst := some 13, op := Op.buildSlice 25 0 #[], type := 25, pos := "law.go:349", after := #[], guard := none }) rfl (fun K hK => ?_) (AllReadyE.cons (i := 5) (o := { dst := some 18, op := Op.buildSlice 25 1 #[(0, Operand.tmp 17)], type := 25, pos := "law.go:349", after := #[{ on := 4, ground := Ground.data }], guard := none }) rfl (fun K hK => ?_) .nil))
      ·
        go_simp
        refine hK.out _ _ (.inr ?_) ?_
        · exact bl1 wx _
        clear hK K
        try simp only [Act.put, List.setIfInBounds_toArray, List.set_cons_zero, List.set_cons_succ]
        refine wpAnyE_ready (rs := [3, 5]) (by kernel_rfl) (by simp) ?_
        refine (AllReadyE.cons (i := 3) (o := { dst := some 16, op := Op.call { callee := Callee.builtin Builtin.append, args := #[Operand.tmp 13, Operand.tmp 15], argTypes := #[25, 25] }, type := 25, pos := "law.go:349", after := #[{ on := 0, ground := Ground.data }, { on := 2, ground := Ground.data }], guard := none }) rfl (fun K hK => ?_) (AllReadyE.cons (i := 5) (o := { dst := some 18, op := Op.buildSlice 25 1 #[(0, Operand.tmp 17)], type := 25, pos := "law.go:349", after := #[{ on := 4, ground := Ground.data }], guard := none }) rfl (fun K hK => ?_) .nil))
        ·
          refine step_copy rfl _ _ rfl wx.heap.size wx.heap.size (by rfl) (at1 wx) (by omega) (ps k).A m (ps k).c (ps k).lg (by rfl) (HLY.out _ (bl1 wx _)) hm (by first | omega | (simp <;> omega)) ?_
          intro g1 cap1 w3 hr1 hg1 hat1
          have hb3 := bl_grow (B := wx.heap.size) (bl1 wx _) hg1 (by omega) (by first | omega | (simp <;> omega))
          have hs3 := hb3.size
          have hg1l : wx.heap.size ≤ g1 := (row_cap hr1).2.1
          refine hK.out _ _ (.inr hb3) ?_
          clear hK K
          try simp only [Act.put, List.setIfInBounds_toArray, List.set_cons_zero, List.set_cons_succ]
          refine wpAnyE_one (i := 5) (o := { dst := some 18, op := Op.buildSlice 25 1 #[(0, Operand.tmp 17)], type := 25, pos := "law.go:349", after := #[{ on := 4, ground := Ground.data }], guard := none }) (by kernel_rfl) rfl (fun K hK => ?_)
          go_simp
          refine hK.out _ _ (.inr ?_) ?_
          · exact hb3.trans ((Below.new w3 _).mono hs3)
          clear hK K
          try simp only [Act.put, List.setIfInBounds_toArray, List.set_cons_zero, List.set_cons_succ]
          refine wpAnyE_one (i := 6) (o := { dst := some 19, op := Op.call { callee := Callee.builtin Builtin.append, args := #[Operand.tmp 16, Operand.tmp 18], argTypes := #[25, 25] }, type := 25, pos := "law.go:349", after := #[{ on := 3, ground := Ground.data }, { on := 5, ground := Ground.data }, { on := 3, ground := Ground.chain }], guard := none }) (by kernel_rfl) rfl (fun K hK => ?_)
          refine step_leg rfl _ _ rfl wx.heap.size g1 m cap1 _ (by rfl) (hr1.alloc _) w3.heap.size _ _ (by rfl) (heap_alloc_new w3 _) hm (by first | omega | (simp <;> omega)) ?_
          intro g2 cap2 w4 hr2 hg2 hat2
          have hb4 := bl_grow (B := wx.heap.size) (hb3.trans ((Below.new w3 _).mono hs3)) hg2 hg1l (by first | omega | (simp <;> omega))
          refine hK.out _ _ (.inr hb4) ?_
          clear hK K
          try simp only [Act.put, List.setIfInBounds_toArray, List.set_cons_zero, List.set_cons_succ]
          refine wpAnyE_one (i := 10) (o := { dst := some 23, op := Op.slice 25 (Operand.tmp 19) none (some (Operand.tmp 22)) none, type := 25, pos := "law.go:349", after := #[{ on := 6, ground := Ground.data }, { on := 9, ground := Ground.data }], guard := none }) (by kernel_rfl) rfl (fun K hK => ?_)
          obtain ⟨rc1, rc2, rc3⟩ := row_cap hr2
          have rc4 : (0 : Int) ≤ (m : Int) := by omega
          have rc5 : (m : Int) ≤ (cap2 : Int) := by omega
          have HB4 := Lib.hid hb4; have HR2 := Lib.hid hr2; have HG2 := Lib.hid hg2; have HAT := Lib.hid hat2
          clear hb4 hr2 hg2 hat2
          go_simp
          refine hK.out _ _ (.inr HB4.out) ?_
          clear hK K
          try simp only [Act.put, List.setIfInBounds_toArray, List.set_cons_zero, List.set_cons_succ]
          refine wpAnyE_one (i := 11) (o := { dst := some 24, op := Op.fieldAddr 35 (Operand.tmp 5) 3, type := 0, pos := "law.go:349", after := #[{ on := 0, ground := Ground.phase }, { on := 1, ground := Ground.phase }, { on := 2, ground := Ground.phase }, { on := 3, ground := Ground.phase }, { on := 4, ground := Ground.phase }, { on := 5, ground := Ground.phase }, { on := 6, ground := Ground.phase }, { on := 7, ground := Ground.phase }, { on := 8, ground := Ground.phase }, { on := 9, ground := Ground.phase }, { on := 10, ground := Ground.phase }], guard := none }) (by kernel_rfl) rfl (fun K hK => ?_)
          go_simp
          refine hK.out _ _ (.inr HB4.out) ?_
          clear hK K
          try simp only [Act.put, List.setIfInBounds_toArray, List.set_cons_zero, List.set_cons_succ]
          refine wpAnyE_one (i := 12) (o := { dst := none, op := Op.store 25 (Operand.tmp 24) (Operand.tmp 23), type := 0, pos := "law.go:349", after := #[{ on := 11, ground := Ground.data }, { on := 10, ground := Ground.data }, { on := 6, ground := Ground.chain }, { on := 0, ground := Ground.phase }, { on := 1, ground := Ground.phase }, { on := 2, ground := Ground.phase }, { on := 3, ground := Ground.phase }, { on := 4, ground := Ground.phase }, { on := 5, ground := Ground.phase }, { on := 6, ground := Ground.phase }, { on := 7, ground := Ground.phase }, { on := 8, ground := Ground.phase }, { on := 9, ground := Ground.phase }, { on := 10, ground := Ground.phase }], guard := none }) (by kernel_rfl) rfl (fun K hK => ?_)
          obtain ⟨q1, q2⟩ := HKP.out w4 HB4.out
          go_simp
          refine hK.out _ _ (.inl rfl) ?_
          clear q1 q2
          clear hK K
          try simp only [Act.put, List.setIfInBounds_toArray, List.set_cons_zero, List.set_cons_succ]
          refine wpAnyE_done (by kernel_rfl) ?_ _
          have hb5 := (HB4.out.block wr.heap.size hzx).trans HBX.out
          have hb6 := block5 (u := Value.slice (some ⟨g2, 0, none⟩) m cap2) hb5
          have hown5 : (w4.setCell ⟨wr.heap.size, 3, none⟩ (Value.slice (some ⟨g2, 0, none⟩) m cap2)).ownsRow N 35 4 u3 k (postsL qs k) := by
            refine ownsRow_of_block HH.out.own fun b e => ?_
            have hvo := HH.out.own.lt b e
            have hw1 : wx.heap[b]? = wr.heap[b]? := by rw [HWX.out]; exact heap_alloc_old wr _ b hvo.2
            exact (Below.heap_setCell _ _ _ _ (by show b ≠ wr.heap.size; omega)).trans ((HB4.out.block b (by omega)).trans hw1)
          have hz5 : N ≤ (w4.setCell ⟨wr.heap.size, 3, none⟩ (Value.slice (some ⟨g2, 0, none⟩) m cap2)).heap.size := by
            have h1 := HH.out.low
            have h2 := HB4.out.size
            simp [World.setCell]; omega
          have HST := Lib.hid (fun (g7 cap7 : Nat) (w7 : World) ho hg hat => HH.out.step (ps := ps) (g2 := g2) (cap2 := cap2) (g7 := g7) (cap7 := cap7) (m := m) (w4 := w4) (w7 := w7) (c := #[.string (ps k).id, .int .i64 (ps k).tick, .string (ps k).note, .slice (ps k).A m (ps k).c]) (p := ⟨(ps k).id, (ps k).tick, (ps k).note, some ⟨g2, 0, none⟩, m, cap2, (ps k).lg⟩) rfl ⟨rfl, rfl, rfl, HNM.out.symm, rfl⟩ rfl rfl
            (by have h := HB4.out; rw [HWX.out] at h; simpa [HNM.out] using h) (by have h := HR2.out; rw [HWX.out] at h; simpa [spare] using h) (Value.slice (some ⟨g2, 0, none⟩) m cap2) ho hg hat)
          have hsz5 : (w4.setCell ⟨wr.heap.size, 3, none⟩ (Value.slice (some ⟨g2, 0, none⟩) m cap2)).heap.size = w4.heap.size := by simp [World.setCell]
          have HSZ5 := Lib.hid hsz5
          generalize w4.setCell ⟨wr.heap.size, 3, none⟩ (Value.slice (some ⟨g2, 0, none⟩) m cap2) = w5 at *
          generalize postsL qs k = xs at *
          have k0 : w5.cell? ⟨wr.heap.size, 0, none⟩ = some (.string (ps k).id) := by unfold World.cell?; rw [hb6]; rfl
          have k1 : w5.cell? ⟨wr.heap.size, 1, none⟩ = some (.int .i64 (ps k).tick) := by unfold World.cell?; rw [hb6]; rfl
          have k2 : w5.cell? ⟨wr.heap.size, 2, none⟩ = some (.string (ps k).note) := by unfold World.cell?; rw [hb6]; rfl
          have k3 : w5.cell? ⟨wr.heap.size, 3, none⟩ = some (.slice (some ⟨g2, 0, none⟩) m cap2) := by unfold World.cell?; rw [hb6]; rfl
          have hk1 : k + 1 ≤ 1099511627776 := by omega
          have HOWN := Lib.hid hown5
          clear hb5 hb6 hsz5 c0 c1 c2 c3
          go_wp2_with (first
            | (at_builtin; refine append_post rfl _ _ rfl N k _ xs rfl HOWN.out (ps k).id (ps k).tick (ps k).note (some ⟨g2, 0, none⟩) m cap2 rfl hk1 hz5 ?_; intro g7 cap7 w7 ho7 hg7 hat7)
            | go_in)
          exact ⟨⟨k + 1, _, by go_num, by omega, Lib.hid (HST.out g7 cap7 w7 ho7 hg7 (hat7.imp id fun h => by have := HSZ5.out; omega))⟩, by simp [intOf]; omega⟩
        ·
          go_simp
          refine hK.out _ _ (.inr ?_) ?_
          · exact bl2 wx _ _
          clear hK K
          try simp only [Act.put, List.setIfInBounds_toArray, List.set_cons_zero, List.set_cons_succ]
          refine wpAnyE_one (i := 3) (o := { dst := some 16, op := Op.call { callee := Callee.builtin Builtin.append, args := #[Operand.tmp 13, Operand.tmp 15], argTypes := #[25, 25] }, type := 25, pos := "law.go:349", after := #[{ on := 0, ground := Ground.data }, { on := 2, ground := Ground.data }], guard := none }) (by kernel_rfl) rfl (fun K hK => ?_)
          refine step_copy rfl _ _ rfl wx.heap.size wx.heap.size (by rfl) (at2 wx _) (by omega) (ps k).A m (ps k).c (ps k).lg (by rfl) (HLY.out _ (bl2 wx _ _)) hm (by first | omega | (simp <;> omega)) ?_
          intro g1 cap1 w3 hr1 hg1 hat1
          have hb3 := bl_grow (B := wx.heap.size) (bl2 wx _ _) hg1 (by omega) (by first | omega | (simp <;> omega))
          have hs3 := hb3.size
          have hg1l : wx.heap.size ≤ g1 := (row_cap hr1).2.1
          have hq3 := (hg1.block (wx.heap.size + 1) (by simp) (by simp)).trans (at4 wx _ _ _)
          refine hK.out _ _ (.inr hb3) ?_
          clear hK K
          try simp only [Act.put, List.setIfInBounds_toArray, List.set_cons_zero, List.set_cons_succ]
          refine wpAnyE_one (i := 6) (o := { dst := some 19, op := Op.call { callee := Callee.builtin Builtin.append, args := #[Operand.tmp 16, Operand.tmp 18], argTypes := #[25, 25] }, type := 25, pos := "law.go:349", after := #[{ on := 3, ground := Ground.data }, { on := 5, ground := Ground.data }, { on := 3, ground := Ground.chain }], guard := none }) (by kernel_rfl) rfl (fun K hK => ?_)
          refine step_leg rfl _ _ rfl wx.heap.size g1 m cap1 _ (by rfl) hr1 (wx.heap.size + 1) _ _ (by rfl) hq3 hm (by omega) ?_
          intro g2 cap2 w4 hr2 hg2 hat2
          have hb4 := bl_grow (B := wx.heap.size) hb3 hg2 hg1l (by first | omega | (simp <;> omega))
          refine hK.out _ _ (.inr hb4) ?_
          clear hK K
          try simp only [Act.put, List.setIfInBounds_toArray, List.set_cons_zero, List.set_cons_succ]
          refine wpAnyE_one (i := 10) (o := { dst := some 23, op := Op.slice 25 (Operand.tmp 19) none (some (Operand.tmp 22)) none, type := 25, pos := "law.go:349", after := #[{ on := 6, ground := Ground.data }, { on := 9, ground := Ground.data }], guard := none }) (by kernel_rfl) rfl (fun K hK => ?_)
          obtain ⟨rc1, rc2, rc3⟩ := row_cap hr2
          have rc4 : (0 : Int) ≤ (m : Int) := by omega
          have rc5 : (m : Int) ≤ (cap2 : Int) := by omega
          have HB4 := Lib.hid hb4; have HR2 := Lib.hid hr2; have HG2 := Lib.hid hg2; have HAT := Lib.hid hat2
          clear hb4 hr2 hg2 hat2
          go_simp
          refine hK.out _ _ (.inr HB4.out) ?_
          clear hK K
          try simp only [Act.put, List.setIfInBounds_toArray, List.set_cons_zero, List.set_cons_succ]
          refine wpAnyE_one (i := 11) (o := { dst := some 24, op := Op.fieldAddr 35 (Operand.tmp 5) 3, type := 0, pos := "law.go:349", after := #[{ on := 0, ground := Ground.phase }, { on := 1, ground := Ground.phase }, { on := 2, ground := Ground.phase }, { on := 3, ground := Ground.phase }, { on := 4, ground := Ground.phase }, { on := 5, ground := Ground.phase }, { on := 6, ground := Ground.phase }, { on := 7, ground := Ground.phase }, { on := 8, ground := Ground.phase }, { on := 9, ground := Ground.phase }, { on := 10, ground := Ground.phase }], guard := none }) (by kernel_rfl) rfl (fun K hK => ?_)
          go_simp
          refine hK.out _ _ (.inr HB4.out) ?_
          clear hK K
          try simp only [Act.put, List.setIfInBounds_toArray, List.set_cons_zero, List.set_cons_succ]
          refine wpAnyE_one (i := 12) (o := { dst := none, op := Op.store 25 (Operand.tmp 24) (Operand.tmp 23), type := 0, pos := "law.go:349", after := #[{ on := 11, ground := Ground.data }, { on := 10, ground := Ground.data }, { on := 6, ground := Ground.chain }, { on := 0, ground := Ground.phase }, { on := 1, ground := Ground.phase }, { on := 2, ground := Ground.phase }, { on := 3, ground := Ground.phase }, { on := 4, ground := Ground.phase }, { on := 5, ground := Ground.phase }, { on := 6, ground := Ground.phase }, { on := 7, ground := Ground.phase }, { on := 8, ground := Ground.phase }, { on := 9, ground := Ground.phase }, { on := 10, ground := Ground.phase }], guard := none }) (by kernel_rfl) rfl (fun K hK => ?_)
          obtain ⟨q1, q2⟩ := HKP.out w4 HB4.out
          go_simp
          refine hK.out _ _ (.inl rfl) ?_
          clear q1 q2
          clear hK K
          try simp only [Act.put, List.setIfInBounds_toArray, List.set_cons_zero, List.set_cons_succ]
          refine wpAnyE_done (by kernel_rfl) ?_ _
          have hb5 := (HB4.out.block wr.heap.size hzx).trans HBX.out
          have hb6 := block5 (u := Value.slice (some ⟨g2, 0, none⟩) m cap2) hb5
          have hown5 : (w4.setCell ⟨wr.heap.size, 3, none⟩ (Value.slice (some ⟨g2, 0, none⟩) m cap2)).ownsRow N 35 4 u3 k (postsL qs k) := by
            refine ownsRow_of_block HH.out.own fun b e => ?_
            have hvo := HH.out.own.lt b e
            have hw1 : wx.heap[b]? = wr.heap[b]? := by rw [HWX.out]; exact heap_alloc_old wr _ b hvo.2
            exact (Below.heap_setCell _ _ _ _ (by show b ≠ wr.heap.size; omega)).trans ((HB4.out.block b (by omega)).trans hw1)
          have hz5 : N ≤ (w4.setCell ⟨wr.heap.size, 3, none⟩ (Value.slice (some ⟨g2, 0, none⟩) m cap2)).heap.size := by
            have h1 := HH.out.low
            have h2 := HB4.out.size
            simp [World.setCell]; omega
          have HST := Lib.hid (fun (g7 cap7 : Nat) (w7 : World) ho hg hat => HH.out.step (ps := ps) (g2 := g2) (cap2 := cap2) (g7 := g7) (cap7 := cap7) (m := m) (w4 := w4) (w7 := w7) (c := #[.string (ps k).id, .int .i64 (ps k).tick, .string (ps k).note, .slice (ps k).A m (ps k).c]) (p := ⟨(ps k).id, (ps k).tick, (ps k).note, some ⟨g2, 0, none⟩, m, cap2, (ps k).lg⟩) rfl ⟨rfl, rfl, rfl, HNM.out.symm, rfl⟩ rfl rfl
            (by have h := HB4.out; rw [HWX.out] at h; simpa [HNM.out] using h) (by have h := HR2.out; rw [HWX.out] at h; simpa [spare] using h) (Value.slice (some ⟨g2, 0, none⟩) m cap2) ho hg hat)
          have hsz5 : (w4.setCell ⟨wr.heap.size, 3, none⟩ (Value.slice (some ⟨g2, 0, none⟩) m cap2)).heap.size = w4.heap.size := by simp [World.setCell]
          have HSZ5 := Lib.hid hsz5
          generalize w4.setCell ⟨wr.heap.size, 3, none⟩ (Value.slice (some ⟨g2, 0, none⟩) m cap2) = w5 at *
          generalize postsL qs k = xs at *
          have k0 : w5.cell? ⟨wr.heap.size, 0, none⟩ = some (.string (ps k).id) := by unfold World.cell?; rw [hb6]; rfl
          have k1 : w5.cell? ⟨wr.heap.size, 1, none⟩ = some (.int .i64 (ps k).tick) := by unfold World.cell?; rw [hb6]; rfl
          have k2 : w5.cell? ⟨wr.heap.size, 2, none⟩ = some (.string (ps k).note) := by unfold World.cell?; rw [hb6]; rfl
          have k3 : w5.cell? ⟨wr.heap.size, 3, none⟩ = some (.slice (some ⟨g2, 0, none⟩) m cap2) := by unfold World.cell?; rw [hb6]; rfl
          have hk1 : k + 1 ≤ 1099511627776 := by omega
          have HOWN := Lib.hid hown5
          clear hb5 hb6 hsz5 c0 c1 c2 c3
          go_wp2_with (first
            | (at_builtin; refine append_post rfl _ _ rfl N k _ xs rfl HOWN.out (ps k).id (ps k).tick (ps k).note (some ⟨g2, 0, none⟩) m cap2 rfl hk1 hz5 ?_; intro g7 cap7 w7 ho7 hg7 hat7)
            | go_in)
          exact ⟨⟨k + 1, _, by go_num, by omega, Lib.hid (HST.out g7 cap7 w7 ho7 hg7 (hat7.imp id fun h => by have := HSZ5.out; omega))⟩, by simp [intOf]; omega⟩
      ·
        go_simp
        refine hK.out _ _ (.inr ?_) ?_
        · exact bl1 wx _
        clear hK K
        try simp only [Act.put, List.setIfInBounds_toArray, List.set_cons_zero, List.set_cons_succ]
        refine wpAnyE_one (i := 0) (o := { dst := some 13, op := Op.buildSlice 25 0 #[], type := 25, pos := "law.go:349", after := #[], guard := none }) (by kernel_rfl) rfl (fun K hK => ?_)
        go_simp
        refine hK.out _ _ (.inr ?_) ?_
        · exact bl2 wx _ _
        clear hK K
        try simp only [Act.put, List.setIfInBounds_toArray, List.set_cons_zero, List.set_cons_succ]
        refine wpAnyE_one (i := 3) (o := { dst := some 16, op := Op.call { callee := Callee.builtin Builtin.append, args := #[Operand.tmp 13, Operand.tmp 15], argTypes := #[25, 25] }, type := 25, pos := "law.go:349", after := #[{ on := 0, ground := Ground.data }, { on := 2, ground := Ground.data }], guard := none }) (by kernel_rfl) rfl (fun K hK => ?_)
        refine step_copy rfl _ _ rfl (wx.heap.size + 1) wx.heap.size (by rfl) (at3 wx _) (by omega) (ps k).A m (ps k).c (ps k).lg (by rfl) (HLY.out _ (bl2 wx _ _)) hm (by first | omega | (simp <;> omega)) ?_
        intro g1 cap1 w3 hr1 hg1 hat1
        have hb3 := bl_grow (B := wx.heap.size) (bl2 wx _ _) hg1 (by omega) (by first | omega | (simp <;> omega))
        have hs3 := hb3.size
        have hg1l : wx.heap.size ≤ g1 := (row_cap hr1).2.1
        have hq3 := (hg1.block wx.heap.size (by first | omega | (simp <;> omega)) (by simp)).trans (at5 wx _ _ _)
        refine hK.out _ _ (.inr hb3) ?_
        clear hK K
        try simp only [Act.put, List.setIfInBounds_toArray, List.set_cons_zero, List.set_cons_succ]
        refine wpAnyE_one (i := 6) (o := { dst := some 19, op := Op.call { callee := Callee.builtin Builtin.append, args := #[Operand.tmp 16, Operand.tmp 18], argTypes := #[25, 25] }, type := 25, pos := "law.go:349", after := #[{ on := 3, ground := Ground.data }, { on := 5, ground := Ground.data }, { on := 3, ground := Ground.chain }], guard := none }) (by kernel_rfl) rfl (fun K hK => ?_)
        refine step_leg rfl _ _ rfl wx.heap.size g1 m cap1 _ (by rfl) hr1 wx.heap.size _ _ (by rfl) hq3 hm (by omega) ?_
        intro g2 cap2 w4 hr2 hg2 hat2
        have hb4 := bl_grow (B := wx.heap.size) hb3 hg2 hg1l (by first | omega | (simp <;> omega))
        refine hK.out _ _ (.inr hb4) ?_
        clear hK K
        try simp only [Act.put, List.setIfInBounds_toArray, List.set_cons_zero, List.set_cons_succ]
        refine wpAnyE_one (i := 10) (o := { dst := some 23, op := Op.slice 25 (Operand.tmp 19) none (some (Operand.tmp 22)) none, type := 25, pos := "law.go:349", after := #[{ on := 6, ground := Ground.data }, { on := 9, ground := Ground.data }], guard := none }) (by kernel_rfl) rfl (fun K hK => ?_)
        obtain ⟨rc1, rc2, rc3⟩ := row_cap hr2
        have rc4 : (0 : Int) ≤ (m : Int) := by omega
        have rc5 : (m : Int) ≤ (cap2 : Int) := by omega
        have HB4 := Lib.hid hb4; have HR2 := Lib.hid hr2; have HG2 := Lib.hid hg2; have HAT := Lib.hid hat2
        clear hb4 hr2 hg2 hat2
        go_simp
        refine hK.out _ _ (.inr HB4.out) ?_
        clear hK K
        try simp only [Act.put, List.setIfInBounds_toArray, List.set_cons_zero, List.set_cons_succ]
        refine wpAnyE_one (i := 11) (o := { dst := some 24, op := Op.fieldAddr 35 (Operand.tmp 5) 3, type := 0, pos := "law.go:349", after := #[{ on := 0, ground := Ground.phase }, { on := 1, ground := Ground.phase }, { on := 2, ground := Ground.phase }, { on := 3, ground := Ground.phase }, { on := 4, ground := Ground.phase }, { on := 5, ground := Ground.phase }, { on := 6, ground := Ground.phase }, { on := 7, ground := Ground.phase }, { on := 8, ground := Ground.phase }, { on := 9, ground := Ground.phase }, { on := 10, ground := Ground.phase }], guard := none }) (by kernel_rfl) rfl (fun K hK => ?_)
        go_simp
        refine hK.out _ _ (.inr HB4.out) ?_
        clear hK K
        try simp only [Act.put, List.setIfInBounds_toArray, List.set_cons_zero, List.set_cons_succ]
        refine wpAnyE_one (i := 12) (o := { dst := none, op := Op.store 25 (Operand.tmp 24) (Operand.tmp 23), type := 0, pos := "law.go:349", after := #[{ on := 11, ground := Ground.data }, { on := 10, ground := Ground.data }, { on := 6, ground := Ground.chain }, { on := 0, ground := Ground.phase }, { on := 1, ground := Ground.phase }, { on := 2, ground := Ground.phase }, { on := 3, ground := Ground.phase }, { on := 4, ground := Ground.phase }, { on := 5, ground := Ground.phase }, { on := 6, ground := Ground.phase }, { on := 7, ground := Ground.phase }, { on := 8, ground := Ground.phase }, { on := 9, ground := Ground.phase }, { on := 10, ground := Ground.phase }], guard := none }) (by kernel_rfl) rfl (fun K hK => ?_)
        obtain ⟨q1, q2⟩ := HKP.out w4 HB4.out
        go_simp
        refine hK.out _ _ (.inl rfl) ?_
        clear q1 q2
        clear hK K
        try simp only [Act.put, List.setIfInBounds_toArray, List.set_cons_zero, List.set_cons_succ]
        refine wpAnyE_done (by kernel_rfl) ?_ _
        have hb5 := (HB4.out.block wr.heap.size hzx).trans HBX.out
        have hb6 := block5 (u := Value.slice (some ⟨g2, 0, none⟩) m cap2) hb5
        have hown5 : (w4.setCell ⟨wr.heap.size, 3, none⟩ (Value.slice (some ⟨g2, 0, none⟩) m cap2)).ownsRow N 35 4 u3 k (postsL qs k) := by
          refine ownsRow_of_block HH.out.own fun b e => ?_
          have hvo := HH.out.own.lt b e
          have hw1 : wx.heap[b]? = wr.heap[b]? := by rw [HWX.out]; exact heap_alloc_old wr _ b hvo.2
          exact (Below.heap_setCell _ _ _ _ (by show b ≠ wr.heap.size; omega)).trans ((HB4.out.block b (by omega)).trans hw1)
        have hz5 : N ≤ (w4.setCell ⟨wr.heap.size, 3, none⟩ (Value.slice (some ⟨g2, 0, none⟩) m cap2)).heap.size := by
          have h1 := HH.out.low
          have h2 := HB4.out.size
          simp [World.setCell]; omega
        have HST := Lib.hid (fun (g7 cap7 : Nat) (w7 : World) ho hg hat => HH.out.step (ps := ps) (g2 := g2) (cap2 := cap2) (g7 := g7) (cap7 := cap7) (m := m) (w4 := w4) (w7 := w7) (c := #[.string (ps k).id, .int .i64 (ps k).tick, .string (ps k).note, .slice (ps k).A m (ps k).c]) (p := ⟨(ps k).id, (ps k).tick, (ps k).note, some ⟨g2, 0, none⟩, m, cap2, (ps k).lg⟩) rfl ⟨rfl, rfl, rfl, HNM.out.symm, rfl⟩ rfl rfl
          (by have h := HB4.out; rw [HWX.out] at h; simpa [HNM.out] using h) (by have h := HR2.out; rw [HWX.out] at h; simpa [spare] using h) (Value.slice (some ⟨g2, 0, none⟩) m cap2) ho hg hat)
        have hsz5 : (w4.setCell ⟨wr.heap.size, 3, none⟩ (Value.slice (some ⟨g2, 0, none⟩) m cap2)).heap.size = w4.heap.size := by simp [World.setCell]
        have HSZ5 := Lib.hid hsz5
        generalize w4.setCell ⟨wr.heap.size, 3, none⟩ (Value.slice (some ⟨g2, 0, none⟩) m cap2) = w5 at *
        generalize postsL qs k = xs at *
        have k0 : w5.cell? ⟨wr.heap.size, 0, none⟩ = some (.string (ps k).id) := by unfold World.cell?; rw [hb6]; rfl
        have k1 : w5.cell? ⟨wr.heap.size, 1, none⟩ = some (.int .i64 (ps k).tick) := by unfold World.cell?; rw [hb6]; rfl
        have k2 : w5.cell? ⟨wr.heap.size, 2, none⟩ = some (.string (ps k).note) := by unfold World.cell?; rw [hb6]; rfl
        have k3 : w5.cell? ⟨wr.heap.size, 3, none⟩ = some (.slice (some ⟨g2, 0, none⟩) m cap2) := by unfold World.cell?; rw [hb6]; rfl
        have hk1 : k + 1 ≤ 1099511627776 := by omega
        have HOWN := Lib.hid hown5
        clear hb5 hb6 hsz5 c0 c1 c2 c3
        go_wp2_with (first
          | (at_builtin; refine append_post rfl _ _ rfl N k _ xs rfl HOWN.out (ps k).id (ps k).tick (ps k).note (some ⟨g2, 0, none⟩) m cap2 rfl hk1 hz5 ?_; intro g7 cap7 w7 ho7 hg7 hat7)
          | go_in)
        exact ⟨⟨k + 1, _, by go_num, by omega, Lib.hid (HST.out g7 cap7 w7 ho7 hg7 (hat7.imp id fun h => by have := HSZ5.out; omega))⟩, by simp [intOf]; omega⟩
    · obtain rfl : k = n := by omega
      have HX := Lib.hid (show Cp w.heap.size ps w wr _ k qs from HNN.out ▸ hh.out)
      clear hh hw
      go_wp2
      go_ret
      exact ⟨_, qs, rfl, HX.out⟩
end Go.Proofs.YtodekiimkbejnaaGreatDoor
