/- Part 8 of what is proved of the program of layer 16: OpsC16, OpsD16, Spawn16. -/
import Derived.Test.YtmlobpapjfkbmaaGreatK7
/- A model's instructions: load, store. -/
namespace Go.Proofs.YtmlobpapjfkbmaaGreat
open Go.RowKit
set_option linter.unusedVariables false
set_option maxRecDepth 20000
set_option linter.unusedSimpArgs false

theorem Md.exs {w w' : World} {A : Adr} {t : Nat → Tg} {mb : Nat} {F : Fns} {m : MS} (h : Md w A t mb F m) (x : Ex w w') : Md w' A t mb F m := h.ex (x.chg (fun _ => False)) (fun i hi => hi.elim)
/-- An object's row, read. -/
theorem Md.ovat {w : World} {A : Adr} {t : Nat → Tg} {mb : Nat} {F : Fns} {m : MS} (h : Md w A t mb F m) {id i : Nat} (hid : id < m.slots.length) (hi : i < (m.slots.getD id []).length) : ∃ ob oc, A.ov id = .slice (some ⟨ob, 0, none⟩) (m.slots.getD id []).length oc ∧ (m.slots.getD id []).length ≤ oc ∧ ob < w.heap.size ∧ t ob = (11, id) ∧
    w.cell? ⟨ob, i, none⟩ = some (.int .i64 ((m.slots.getD id []).getD i 0 : Nat)) ∧ w.frozen? ⟨ob, i, none⟩ = false := by
  have hs := h.slot id hid
  have e : m.obj id = m.slots.getD id [] := rfl
  rw [e] at hs
  obtain ⟨b, cap, h1, h2, h3, h4, h5⟩ := row_ints hs i hi
  exact ⟨b, cap, h1, h3, h2, h4, h5 i hi⟩

set_option maxHeartbeats 12800000 in
theorem load_m {w : World} {A : Adr} {t : Nat → Tg} {mb : Nat} {F : Fns} {m : MS} (h : Md w A t mb F m) (n : New w t) {cb : Nat} {cc : CmI} (hc : Cb w A t cb cc 0) {g : Nat} (hg : g < m.gs.length) (hl : (m.at g).stack.length = 16) (hn : m.slots.length ≤ 100000) (hon : ∀ i, (m.slots.getD i []).length ≤ 1000) (op : Int) (a b c : Nat) (ha : a < 16) (hb : b < 16) (hv : (m.at g).val b < m.slots.length) :
    Calls Tryz.prog 56 #[.pointer (some ⟨mb, 0, none⟩), .int .i64 (g : Nat), .pointer (some ⟨A.gb g, 0, none⟩), .agg #[.int .i64 op, .int .i64 (a : Nat), .int .i64 (b : Nat), .int .i64 (c : Nat)], .pointer (some ⟨cb, 4, none⟩)] w
      (EffD w A t mb F cb cc (effM m g 2 a b c)) := by
  have H := Lib.hid h
  have N := Lib.hid n
  have HC := Lib.hid hc
  have HG := Lib.hid hg
  by_cases hbad : (m.at g).val b = 0 ∨ (m.slots.getD ((m.at g).val b) []).length ≤ c
  · have K := Lib.hid (fun W (hW : Ex w W) => slot_bad (h.exs hW) hg hl b c hb hv hn hon hbad)
    unfold panicF faultV at K
    have HE : Hid (effM m g 2 a b c = (m, 0, none)) := Lib.hid (by simp only [effM]; rw [if_pos hbad])
    have clt := hc.box.lt
    obtain ⟨gb, hgb⟩ : ∃ gb, A.gb g = gb := ⟨_, rfl⟩
    rw [hgb] at K ⊢
    clear h n hc hg hl hn hon hv hbad hgb
    go_enter Tryz.func56, Tryz.ntmps56
    go_wp2_with fail
    refine (K.out _ (Ex.made _ _)).mono ?_
    rintro e w' ⟨rfl, rfl⟩
    go_wp2_with fail
    refine ⟨rfl, ?_⟩
    exact effD_none HE.out rfl (eff_ex H.out N.out HC.out (Ex.made _ _))
  · have h0 : (m.at g).val b ≠ 0 := fun e => hbad (.inl e)
    have hi : c < (m.slots.getD ((m.at g).val b) []).length := by omega
    obtain ⟨ob, oc, hob, hoc, olt, otag, oc1, -⟩ := h.ovat hv hi
    have K := Lib.hid (fun W (hW : Ex w W) => slot_ok (h.exs hW) hg hl b c hb hv hn hon h0 hob hoc hi)
    have hB := (h.gor g hg).box
    have HB := Lib.hid hB
    have v1 : w.cell? ⟨cb, 4, none⟩ = some (.int .i64 0) := hc.box.cell 4
    have v2 := hc.box.soft 4
    have hne := cb_gb h hc hg
    have hlt := HB.out.lt
    have clt := hc.box.lt
    have xa := gcells_at (m.at g) a (by omega)
    rw [← hB.cell] at xa
    have fa := hB.soft (3 + a)
    obtain ⟨va, hva⟩ : ∃ v, (m.at g).val a = v := ⟨_, rfl⟩
    rw [hva] at xa
    have HVa := Lib.hid hva
    have ia : (a : Int) < 16 := by omega
    obtain ⟨x, hx⟩ : ∃ x, (m.slots.getD ((m.at g).val b) []).getD c 0 = x := ⟨_, rfl⟩
    rw [hx] at oc1
    have HE : Hid (effM m g 2 a b c = (m.put g ((m.at g).top a x), (x : Int), some 1)) := Lib.hid (by simp only [effM]; rw [if_neg hbad, hx])
    have ho1 : ob ≠ cb := fun e => by have := hc.tag; rw [← e, otag] at this; simp at this
    obtain ⟨gb, hgb⟩ : ∃ gb, A.gb g = gb := ⟨_, rfl⟩
    rw [hgb] at hB HB hne hlt K xa fa ⊢
    have HGB := Lib.hid hgb
    clear h n hc hg hB hl hgb hva hn hon hv hbad h0 hob hi hx otag hoc
    go_enter Tryz.func56, Tryz.ntmps56
    go_wp2_with fail
    refine (K.out _ (Ex.made _ _)).mono ?_
    rintro e w' ⟨rfl, rfl⟩
    go_upto_region 2 with fail
    go_region
    go_wp2_with fail
    go_ret
    rw [← HGB.out]
    rw [← HGB.out] at hne hlt HB
    refine effD_some HE.out rfl ?_
    have y : Ex ((w.setCell ⟨cb, 4, none⟩ (.int .i64 (x : Nat))).setCell ⟨A.gb g, 3 + a, none⟩ (.int .i64 (x : Nat))) _ := (Ex.made _ (.cells #[.int .i64 op, .int .i64 (a : Nat), .int .i64 (b : Nat), .int .i64 (c : Nat)] 58)).trans (Ex.drawn _ 1)
    refine eff_gv H.out N.out HC.out HG.out ((((Chg.cell (F := fun i => i = A.gb g ∨ i = cb) w ⟨cb, 4, none⟩ _ (.inr rfl)).trans (Chg.cell (F := fun i => i = A.gb g ∨ i = cb) _ ⟨A.gb g, 3 + a, none⟩ _ (.inl rfl)) (fun _ _ h => h)).ex y)) ?_ ?_
    · rw [← gcells_set]; exact ((HB.out.put_other hne 4 _).put (3 + a) _).ex y
    · exact ((HC.out.box.put 4 _).put_other (fun e => hne e.symm) (3 + a) _).ex y

theorem store_end {w W : World} {A : Adr} {t : Nat → Tg} {mb : Nat} {F : Fns} {m : MS} (h : Md w A t mb F m) (n : New w t) {va ob oc : Nat} (hv : va < m.slots.length) (hob : A.ov va = .slice (some ⟨ob, 0, none⟩) (m.slots.getD va []).length oc) (b v : Nat) (x : Ex w W) :
    MdR w A t mb F { m with slots := m.slots.set va ((m.slots.getD va []).set b v) } (W.setCell ⟨ob, b, none⟩ (.int .i64 (v : Nat))) := by
  have hr := (h.slot va hv).row
  have e : m.obj va = m.slots.getD va [] := rfl
  rw [e, hob] at hr
  have k : Chg (fun i => (A.ov va).ownBlock = some i) w (W.setCell ⟨ob, b, none⟩ (.int .i64 (v : Nat))) := (x.chg _).trans (Chg.cell (F := fun i => (A.ov va).ownBlock = some i) W ⟨ob, b, none⟩ _ (by rw [hob]; rfl)) (fun _ _ h => h)
  have hr2 := row_chg (F := fun _ => False) hr (x.chg _) (fun _ _ h => h)
  refine mdr_oput h n hv k ?_
  have h3 := (hr2.stored b (.int .i64 (v : Nat))).1
  rw [hob, List.length_set, show S12.ints ((m.slots.getD va []).set b v) = (S12.ints (m.slots.getD va [])).set b (.int .i64 (v : Nat)) by simp [S12.ints, List.map_set]]
  exact h3

set_option maxHeartbeats 12800000 in
theorem store_m {w : World} {A : Adr} {t : Nat → Tg} {mb : Nat} {F : Fns} {m : MS} (h : Md w A t mb F m) (n : New w t) {cb : Nat} {cc : CmI} (hc : Cb w A t cb cc 0) {g : Nat} (hg : g < m.gs.length) (hl : (m.at g).stack.length = 16) (hn : m.slots.length ≤ 100000) (hon : ∀ i, (m.slots.getD i []).length ≤ 1000) (op : Int) (a b c : Nat) (ha : a < 16) (hc3 : c < 16) (hv : (m.at g).val a < m.slots.length) :
    Calls Tryz.prog 57 #[.pointer (some ⟨mb, 0, none⟩), .int .i64 (g : Nat), .pointer (some ⟨A.gb g, 0, none⟩), .agg #[.int .i64 op, .int .i64 (a : Nat), .int .i64 (b : Nat), .int .i64 (c : Nat)], .pointer (some ⟨cb, 4, none⟩)] w
      (EffD w A t mb F cb cc (effM m g 3 a b c)) := by
  have H := Lib.hid h
  have N := Lib.hid n
  have HC := Lib.hid hc
  have HG := Lib.hid hg
  have hB := (h.gor g hg).box
  have hlt := hB.lt
  have xc := gcells_at (m.at g) c (by omega)
  rw [← hB.cell] at xc
  have fc := hB.soft (3 + c)
  obtain ⟨vc, hvc⟩ : ∃ v, (m.at g).val c = v := ⟨_, rfl⟩
  rw [hvc] at xc
  have HVc := Lib.hid hvc
  have ic : (c : Int) < 16 := by omega
  by_cases hbad : (m.at g).val a = 0 ∨ (m.slots.getD ((m.at g).val a) []).length ≤ b
  · have KS := Lib.hid (fun W (hW : Ex w W) => slot_bad (h.exs hW) hg hl a b ha hv hn hon hbad)
    unfold panicF faultV at KS
    have HE : Hid (effM m g 3 a b c = (m, 0, none)) := Lib.hid (by simp only [effM]; rw [if_pos hbad])
    have clt := hc.box.lt
    obtain ⟨gb, hgb⟩ : ∃ gb, A.gb g = gb := ⟨_, rfl⟩
    rw [hgb] at KS hlt xc fc ⊢
    clear h n hc hg hl hn hon hv hbad hgb hB hvc
    go_enter Tryz.func57, Tryz.ntmps57
    go_upto_region 1 with fail
    have b0 := Box.fresh w #[.int .i64 op, .int .i64 (a : Nat), .int .i64 (b : Nat), .int .i64 (c : Nat)] 58
    have x0 := Ex.made w (.cells #[.int .i64 op, .int .i64 (a : Nat), .int .i64 (b : Nat), .int .i64 (c : Nat)] 58)
    obtain ⟨ib, hib⟩ : ∃ ib, w.heap.size = ib := ⟨_, rfl⟩
    obtain ⟨W0, hW0⟩ : ∃ W, W = w.alloc (.cells #[.int .i64 op, .int .i64 (a : Nat), .int .i64 (b : Nat), .int .i64 (c : Nat)] 58) := ⟨_, rfl⟩
    rw [hib] at b0 ⊢
    rw [← hW0] at b0 x0 ⊢
    have B0 := Lib.hid b0
    have X0 := Lib.hid x0
    have CX := Lib.hid (fun W (hW : Ex W0 W) => (⟨(b0.ex hW).cell 1, (b0.ex hW).cell 2, (b0.ex hW).cell 3, ((x0.trans hW).cell (p := ⟨gb, 3 + c, none⟩) hlt).trans xc⟩ : W.cell? ⟨ib, 1, none⟩ = some (.int .i64 (a : Nat)) ∧ W.cell? ⟨ib, 2, none⟩ = some (.int .i64 (b : Nat)) ∧ W.cell? ⟨ib, 3, none⟩ = some (.int .i64 (c : Nat)) ∧ W.cell? ⟨gb, 3 + c, none⟩ = some (.int .i64 (vc : Nat))))
    clear b0 x0 hW0 hib xc fc
    have X1 : Hid (Ex w W0.drew) := Lib.hid (X0.out.trans (ex_drw W0))

    refine wp_region_last (S := fun w' => Ex W0 w') 15 16 (by kernel_rfl) (by kernel_rfl) (by kernel_rfl) (ex_drw W0) (fun hHeld => ?_)
    generalize W0.drew = Y0 at *
    have X2 : Hid (Ex W0 Y0) := Lib.hid hHeld
    refine heldL_take (i := 0) (v := ?_) rfl (by kernel_rfl) (by kernel_rfl) (by kernel_rfl) (by kernel_rfl) (fun _ _ _ h => h) (Or.inl ⟨by rfl, ?_⟩) (by assumption) ?_
    rotate_left
    · intro w hSw; (try dsimp only at hSw); have d1 := (CX.out w hSw).1; have d2 := (CX.out w hSw).2.1; have d3 := (CX.out w hSw).2.2.1; have d4 := (CX.out w hSw).2.2.2; go_simp; try with_reducible rfl
    try simp only [Act.put, List.setIfInBounds_toArray, List.set_cons_zero, List.set_cons_succ]
    refine heldL_take (i := 1) (v := ?_) rfl (by kernel_rfl) (by kernel_rfl) (by kernel_rfl) (by kernel_rfl) (fun _ _ _ h => h) (Or.inl ⟨by rfl, ?_⟩) (by assumption) ?_
    rotate_left
    · intro w hSw; (try dsimp only at hSw); have d1 := (CX.out w hSw).1; have d2 := (CX.out w hSw).2.1; have d3 := (CX.out w hSw).2.2.1; have d4 := (CX.out w hSw).2.2.2; go_simp; try with_reducible rfl
    try simp only [Act.put, List.setIfInBounds_toArray, List.set_cons_zero, List.set_cons_succ]
    refine heldL_take (i := 2) (v := ?_) rfl (by kernel_rfl) (by kernel_rfl) (by kernel_rfl) (by kernel_rfl) (fun _ _ _ h => h) (Or.inl ⟨by rfl, ?_⟩) (by assumption) ?_
    rotate_left
    · intro w hSw; (try dsimp only at hSw); have d1 := (CX.out w hSw).1; have d2 := (CX.out w hSw).2.1; have d3 := (CX.out w hSw).2.2.1; have d4 := (CX.out w hSw).2.2.2; go_simp; try with_reducible rfl
    try simp only [Act.put, List.setIfInBounds_toArray, List.set_cons_zero, List.set_cons_succ]
    refine heldL_take (i := 3) (v := ?_) rfl (by kernel_rfl) (by kernel_rfl) (by kernel_rfl) (by kernel_rfl) (fun _ _ _ h => h) (Or.inl ⟨by rfl, ?_⟩) (by assumption) ?_
    rotate_left
    · intro w hSw; (try dsimp only at hSw); have d1 := (CX.out w hSw).1; have d2 := (CX.out w hSw).2.1; have d3 := (CX.out w hSw).2.2.1; have d4 := (CX.out w hSw).2.2.2; go_simp; try with_reducible rfl
    try simp only [Act.put, List.setIfInBounds_toArray, List.set_cons_zero, List.set_cons_succ]
    refine heldL_take (i := 4) (v := ?_) rfl (by kernel_rfl) (by kernel_rfl) (by kernel_rfl) (by kernel_rfl) (fun _ _ _ h => h) (Or.inl ⟨by rfl, ?_⟩) (by assumption) ?_
    rotate_left
    · intro w hSw; (try dsimp only at hSw); have d1 := (CX.out w hSw).1; have d2 := (CX.out w hSw).2.1; have d3 := (CX.out w hSw).2.2.1; have d4 := (CX.out w hSw).2.2.2; go_simp; try with_reducible rfl
    try simp only [Act.put, List.setIfInBounds_toArray, List.set_cons_zero, List.set_cons_succ]
    refine heldL_take (i := 5) (v := ?_) rfl (by kernel_rfl) (by kernel_rfl) (by kernel_rfl) (by kernel_rfl) (fun _ _ _ h => h) (Or.inl ⟨by rfl, ?_⟩) (by assumption) ?_
    rotate_left
    · intro w hSw; (try dsimp only at hSw); have d1 := (CX.out w hSw).1; have d2 := (CX.out w hSw).2.1; have d3 := (CX.out w hSw).2.2.1; have d4 := (CX.out w hSw).2.2.2; go_simp; try with_reducible rfl
    try simp only [Act.put, List.setIfInBounds_toArray, List.set_cons_zero, List.set_cons_succ]
    refine heldL_take (i := 7) (v := ?_) rfl (by kernel_rfl) (by kernel_rfl) (by kernel_rfl) (by kernel_rfl) (fun _ _ _ h => h) (Or.inl ⟨by rfl, ?_⟩) (by assumption) ?_
    rotate_left
    · intro w hSw; (try dsimp only at hSw); have d1 := (CX.out w hSw).1; have d2 := (CX.out w hSw).2.1; have d3 := (CX.out w hSw).2.2.1; have d4 := (CX.out w hSw).2.2.2; go_simp; try with_reducible rfl
    try simp only [Act.put, List.setIfInBounds_toArray, List.set_cons_zero, List.set_cons_succ]
    refine heldL_take (i := 8) (v := ?_) rfl (by kernel_rfl) (by kernel_rfl) (by kernel_rfl) (by kernel_rfl) (fun _ _ _ h => h) (Or.inl ⟨by rfl, ?_⟩) (by assumption) ?_
    rotate_left
    · intro w hSw; (try dsimp only at hSw); have d1 := (CX.out w hSw).1; have d2 := (CX.out w hSw).2.1; have d3 := (CX.out w hSw).2.2.1; have d4 := (CX.out w hSw).2.2.2; go_simp; try with_reducible rfl
    try simp only [Act.put, List.setIfInBounds_toArray, List.set_cons_zero, List.set_cons_succ]
    refine heldL_take (i := 9) (v := ?_) rfl (by kernel_rfl) (by kernel_rfl) (by kernel_rfl) (by kernel_rfl) (fun _ _ _ h => h) (Or.inl ⟨by rfl, ?_⟩) (by assumption) ?_
    rotate_left
    · intro w hSw; (try dsimp only at hSw); have d1 := (CX.out w hSw).1; have d2 := (CX.out w hSw).2.1; have d3 := (CX.out w hSw).2.2.1; have d4 := (CX.out w hSw).2.2.2; go_simp; try with_reducible rfl
    try simp only [Act.put, List.setIfInBounds_toArray, List.set_cons_zero, List.set_cons_succ]
    refine heldL_take (i := 10) (v := ?_) rfl (by kernel_rfl) (by kernel_rfl) (by kernel_rfl) (by kernel_rfl) (fun _ _ _ h => h) (Or.inl ⟨by rfl, ?_⟩) (by assumption) ?_
    rotate_left
    · intro w hSw; (try dsimp only at hSw); have d1 := (CX.out w hSw).1; have d2 := (CX.out w hSw).2.1; have d3 := (CX.out w hSw).2.2.1; have d4 := (CX.out w hSw).2.2.2; go_simp; try with_reducible rfl
    try simp only [Act.put, List.setIfInBounds_toArray, List.set_cons_zero, List.set_cons_succ]
    refine heldL_take (i := 11) (v := ?_) rfl (by kernel_rfl) (by kernel_rfl) (by kernel_rfl) (by kernel_rfl) (fun _ _ _ h => h) (Or.inl ⟨by rfl, ?_⟩) (by assumption) ?_
    rotate_left
    · intro w hSw; (try dsimp only at hSw); have d1 := (CX.out w hSw).1; have d2 := (CX.out w hSw).2.1; have d3 := (CX.out w hSw).2.2.1; have d4 := (CX.out w hSw).2.2.2; go_simp; try with_reducible rfl
    try simp only [Act.put, List.setIfInBounds_toArray, List.set_cons_zero, List.set_cons_succ]
    refine heldL_take (i := 12) (v := ?_) rfl (by kernel_rfl) (by kernel_rfl) (by kernel_rfl) (by kernel_rfl) (fun _ _ _ h => h) (Or.inl ⟨by rfl, ?_⟩) (by assumption) ?_
    rotate_left
    · intro w hSw; (try dsimp only at hSw); have d1 := (CX.out w hSw).1; have d2 := (CX.out w hSw).2.1; have d3 := (CX.out w hSw).2.2.1; have d4 := (CX.out w hSw).2.2.2; go_simp; try with_reducible rfl
    try simp only [Act.put, List.setIfInBounds_toArray, List.set_cons_zero, List.set_cons_succ]
    refine heldL_take (i := 13) (v := ?_) rfl (by kernel_rfl) (by kernel_rfl) (by kernel_rfl) (by kernel_rfl) (fun _ _ _ h => h) (Or.inl ⟨by rfl, ?_⟩) (by assumption) ?_
    rotate_left
    · intro w hSw; (try dsimp only at hSw); have d1 := (CX.out w hSw).1; have d2 := (CX.out w hSw).2.1; have d3 := (CX.out w hSw).2.2.1; have d4 := (CX.out w hSw).2.2.2; go_simp; try with_reducible rfl
    try simp only [Act.put, List.setIfInBounds_toArray, List.set_cons_zero, List.set_cons_succ]
    refine heldL_ready (rs := [6]) (by kernel_rfl) (by simp) ?_
    refine AllL.cons rfl (fun K hK => ?_) AllL.nil
    go_simp
    go_at_call 83
    refine (KS.out _ X1.out).mono ?_
    rintro e w1 ⟨rfl, rfl⟩
    go_wp2_with fail
    refine ⟨rfl, ?_⟩
    exact effD_none HE.out rfl (eff_ex H.out N.out HC.out X1.out)
  · have h0 : (m.at g).val a ≠ 0 := fun e => hbad (.inl e)
    have hi : b < (m.slots.getD ((m.at g).val a) []).length := by omega
    obtain ⟨ob, oc, hob, hoc, olt, otag, oc1, of1⟩ := h.ovat hv hi
    have KS := Lib.hid (fun W (hW : Ex w W) => slot_ok (h.exs hW) hg hl a b ha hv hn hon h0 hob hoc hi)
    obtain ⟨va, hva⟩ : ∃ va, (m.at g).val a = va := ⟨_, rfl⟩
    have HE : Hid (effM m g 3 a b c = ({ m with slots := m.slots.set va ((m.slots.getD va []).set b vc) }, 0, some 1)) := Lib.hid (by simp only [effM]; rw [if_neg hbad, hva, HVc.out])
    have HOB : Hid (A.ov va = .slice (some ⟨ob, 0, none⟩) (m.slots.getD va []).length oc) := Lib.hid (hva ▸ hob)
    have HVA : Hid (va < m.slots.length) := Lib.hid (hva ▸ hv)
    obtain ⟨gb, hgb⟩ : ∃ gb, A.gb g = gb := ⟨_, rfl⟩
    rw [hgb] at KS hlt xc fc ⊢
    clear h n hc hg hl hn hon hv hbad hgb hB hvc h0 hob hi otag hoc hva
    go_enter Tryz.func57, Tryz.ntmps57
    go_upto_region 1 with fail
    have b0 := Box.fresh w #[.int .i64 op, .int .i64 (a : Nat), .int .i64 (b : Nat), .int .i64 (c : Nat)] 58
    have x0 := Ex.made w (.cells #[.int .i64 op, .int .i64 (a : Nat), .int .i64 (b : Nat), .int .i64 (c : Nat)] 58)
    obtain ⟨ib, hib⟩ : ∃ ib, w.heap.size = ib := ⟨_, rfl⟩
    obtain ⟨W0, hW0⟩ : ∃ W, W = w.alloc (.cells #[.int .i64 op, .int .i64 (a : Nat), .int .i64 (b : Nat), .int .i64 (c : Nat)] 58) := ⟨_, rfl⟩
    rw [hib] at b0 ⊢
    rw [← hW0] at b0 x0 ⊢
    have B0 := Lib.hid b0
    have X0 := Lib.hid x0
    have CX := Lib.hid (fun W (hW : Ex W0 W) => (⟨(b0.ex hW).cell 1, (b0.ex hW).cell 2, (b0.ex hW).cell 3, ((x0.trans hW).cell (p := ⟨gb, 3 + c, none⟩) hlt).trans xc⟩ : W.cell? ⟨ib, 1, none⟩ = some (.int .i64 (a : Nat)) ∧ W.cell? ⟨ib, 2, none⟩ = some (.int .i64 (b : Nat)) ∧ W.cell? ⟨ib, 3, none⟩ = some (.int .i64 (c : Nat)) ∧ W.cell? ⟨gb, 3 + c, none⟩ = some (.int .i64 (vc : Nat))))
    have OX := Lib.hid (fun W (hW : Ex W0 W) => (⟨((x0.trans hW).cell (p := ⟨ob, b, none⟩) olt).trans oc1, ((x0.trans hW).frozen (p := ⟨ob, b, none⟩) olt).trans of1⟩ : W.cell? ⟨ob, b, none⟩ = some _ ∧ W.frozen? ⟨ob, b, none⟩ = false))
    clear b0 x0 hW0 hib xc fc
    have X1 : Hid (Ex w W0.drew) := Lib.hid (X0.out.trans (ex_drw W0))

    refine wp_region_last (S := fun w' => Ex W0 w') 15 16 (by kernel_rfl) (by kernel_rfl) (by kernel_rfl) (ex_drw W0) (fun hHeld => ?_)
    generalize W0.drew = Y0 at *
    refine heldL_take (i := 0) (v := ?_) rfl (by kernel_rfl) (by kernel_rfl) (by kernel_rfl) (by kernel_rfl) (fun _ _ _ h => h) (Or.inl ⟨by rfl, ?_⟩) (by assumption) ?_
    rotate_left
    · intro w hSw; (try dsimp only at hSw); have d1 := (CX.out w hSw).1; have d2 := (CX.out w hSw).2.1; have d3 := (CX.out w hSw).2.2.1; have d4 := (CX.out w hSw).2.2.2; go_simp; try with_reducible rfl
    try simp only [Act.put, List.setIfInBounds_toArray, List.set_cons_zero, List.set_cons_succ]
    refine heldL_take (i := 1) (v := ?_) rfl (by kernel_rfl) (by kernel_rfl) (by kernel_rfl) (by kernel_rfl) (fun _ _ _ h => h) (Or.inl ⟨by rfl, ?_⟩) (by assumption) ?_
    rotate_left
    · intro w hSw; (try dsimp only at hSw); have d1 := (CX.out w hSw).1; have d2 := (CX.out w hSw).2.1; have d3 := (CX.out w hSw).2.2.1; have d4 := (CX.out w hSw).2.2.2; go_simp; try with_reducible rfl
    try simp only [Act.put, List.setIfInBounds_toArray, List.set_cons_zero, List.set_cons_succ]
    refine heldL_take (i := 2) (v := ?_) rfl (by kernel_rfl) (by kernel_rfl) (by kernel_rfl) (by kernel_rfl) (fun _ _ _ h => h) (Or.inl ⟨by rfl, ?_⟩) (by assumption) ?_
    rotate_left
    · intro w hSw; (try dsimp only at hSw); have d1 := (CX.out w hSw).1; have d2 := (CX.out w hSw).2.1; have d3 := (CX.out w hSw).2.2.1; have d4 := (CX.out w hSw).2.2.2; go_simp; try with_reducible rfl
    try simp only [Act.put, List.setIfInBounds_toArray, List.set_cons_zero, List.set_cons_succ]
    refine heldL_take (i := 3) (v := ?_) rfl (by kernel_rfl) (by kernel_rfl) (by kernel_rfl) (by kernel_rfl) (fun _ _ _ h => h) (Or.inl ⟨by rfl, ?_⟩) (by assumption) ?_
    rotate_left
    · intro w hSw; (try dsimp only at hSw); have d1 := (CX.out w hSw).1; have d2 := (CX.out w hSw).2.1; have d3 := (CX.out w hSw).2.2.1; have d4 := (CX.out w hSw).2.2.2; go_simp; try with_reducible rfl
    try simp only [Act.put, List.setIfInBounds_toArray, List.set_cons_zero, List.set_cons_succ]
    refine heldL_take (i := 4) (v := ?_) rfl (by kernel_rfl) (by kernel_rfl) (by kernel_rfl) (by kernel_rfl) (fun _ _ _ h => h) (Or.inl ⟨by rfl, ?_⟩) (by assumption) ?_
    rotate_left
    · intro w hSw; (try dsimp only at hSw); have d1 := (CX.out w hSw).1; have d2 := (CX.out w hSw).2.1; have d3 := (CX.out w hSw).2.2.1; have d4 := (CX.out w hSw).2.2.2; go_simp; try with_reducible rfl
    try simp only [Act.put, List.setIfInBounds_toArray, List.set_cons_zero, List.set_cons_succ]
    refine heldL_take (i := 5) (v := ?_) rfl (by kernel_rfl) (by kernel_rfl) (by kernel_rfl) (by kernel_rfl) (fun _ _ _ h => h) (Or.inl ⟨by rfl, ?_⟩) (by assumption) ?_
    rotate_left
    · intro w hSw; (try dsimp only at hSw); have d1 := (CX.out w hSw).1; have d2 := (CX.out w hSw).2.1; have d3 := (CX.out w hSw).2.2.1; have d4 := (CX.out w hSw).2.2.2; go_simp; try with_reducible rfl
    try simp only [Act.put, List.setIfInBounds_toArray, List.set_cons_zero, List.set_cons_succ]
    refine heldL_take (i := 7) (v := ?_) rfl (by kernel_rfl) (by kernel_rfl) (by kernel_rfl) (by kernel_rfl) (fun _ _ _ h => h) (Or.inl ⟨by rfl, ?_⟩) (by assumption) ?_
    rotate_left
    · intro w hSw; (try dsimp only at hSw); have d1 := (CX.out w hSw).1; have d2 := (CX.out w hSw).2.1; have d3 := (CX.out w hSw).2.2.1; have d4 := (CX.out w hSw).2.2.2; go_simp; try with_reducible rfl
    try simp only [Act.put, List.setIfInBounds_toArray, List.set_cons_zero, List.set_cons_succ]
    refine heldL_take (i := 8) (v := ?_) rfl (by kernel_rfl) (by kernel_rfl) (by kernel_rfl) (by kernel_rfl) (fun _ _ _ h => h) (Or.inl ⟨by rfl, ?_⟩) (by assumption) ?_
    rotate_left
    · intro w hSw; (try dsimp only at hSw); have d1 := (CX.out w hSw).1; have d2 := (CX.out w hSw).2.1; have d3 := (CX.out w hSw).2.2.1; have d4 := (CX.out w hSw).2.2.2; go_simp; try with_reducible rfl
    try simp only [Act.put, List.setIfInBounds_toArray, List.set_cons_zero, List.set_cons_succ]
    refine heldL_take (i := 9) (v := ?_) rfl (by kernel_rfl) (by kernel_rfl) (by kernel_rfl) (by kernel_rfl) (fun _ _ _ h => h) (Or.inl ⟨by rfl, ?_⟩) (by assumption) ?_
    rotate_left
    · intro w hSw; (try dsimp only at hSw); have d1 := (CX.out w hSw).1; have d2 := (CX.out w hSw).2.1; have d3 := (CX.out w hSw).2.2.1; have d4 := (CX.out w hSw).2.2.2; go_simp; try with_reducible rfl
    try simp only [Act.put, List.setIfInBounds_toArray, List.set_cons_zero, List.set_cons_succ]
    refine heldL_take (i := 10) (v := ?_) rfl (by kernel_rfl) (by kernel_rfl) (by kernel_rfl) (by kernel_rfl) (fun _ _ _ h => h) (Or.inl ⟨by rfl, ?_⟩) (by assumption) ?_
    rotate_left
    · intro w hSw; (try dsimp only at hSw); have d1 := (CX.out w hSw).1; have d2 := (CX.out w hSw).2.1; have d3 := (CX.out w hSw).2.2.1; have d4 := (CX.out w hSw).2.2.2; go_simp; try with_reducible rfl
    try simp only [Act.put, List.setIfInBounds_toArray, List.set_cons_zero, List.set_cons_succ]
    refine heldL_take (i := 11) (v := ?_) rfl (by kernel_rfl) (by kernel_rfl) (by kernel_rfl) (by kernel_rfl) (fun _ _ _ h => h) (Or.inl ⟨by rfl, ?_⟩) (by assumption) ?_
    rotate_left
    · intro w hSw; (try dsimp only at hSw); have d1 := (CX.out w hSw).1; have d2 := (CX.out w hSw).2.1; have d3 := (CX.out w hSw).2.2.1; have d4 := (CX.out w hSw).2.2.2; go_simp; try with_reducible rfl
    try simp only [Act.put, List.setIfInBounds_toArray, List.set_cons_zero, List.set_cons_succ]
    refine heldL_take (i := 12) (v := ?_) rfl (by kernel_rfl) (by kernel_rfl) (by kernel_rfl) (by kernel_rfl) (fun _ _ _ h => h) (Or.inl ⟨by rfl, ?_⟩) (by assumption) ?_
    rotate_left
    · intro w hSw; (try dsimp only at hSw); have d1 := (CX.out w hSw).1; have d2 := (CX.out w hSw).2.1; have d3 := (CX.out w hSw).2.2.1; have d4 := (CX.out w hSw).2.2.2; go_simp; try with_reducible rfl
    try simp only [Act.put, List.setIfInBounds_toArray, List.set_cons_zero, List.set_cons_succ]
    refine heldL_take (i := 13) (v := ?_) rfl (by kernel_rfl) (by kernel_rfl) (by kernel_rfl) (by kernel_rfl) (fun _ _ _ h => h) (Or.inl ⟨by rfl, ?_⟩) (by assumption) ?_
    rotate_left
    · intro w hSw; (try dsimp only at hSw); have d1 := (CX.out w hSw).1; have d2 := (CX.out w hSw).2.1; have d3 := (CX.out w hSw).2.2.1; have d4 := (CX.out w hSw).2.2.2; go_simp; try with_reducible rfl
    try simp only [Act.put, List.setIfInBounds_toArray, List.set_cons_zero, List.set_cons_succ]
    refine heldL_ready (rs := [6]) (by kernel_rfl) (by simp) ?_
    refine AllL.cons rfl (fun K hK => ?_) AllL.nil
    go_simp
    go_at_call 83
    refine (KS.out _ X1.out).mono ?_
    rintro e w1 ⟨rfl, rfl⟩
    refine hK.out _ _ (fun _ => hHeld) (fun hHeld => ?_)
    replace hHeld := hHeld (by decide)
    clear hK K
    try simp only [Act.put, List.setIfInBounds_toArray, List.set_cons_zero, List.set_cons_succ]
    refine heldL_take (i := 14) (v := ?_) rfl (by kernel_rfl) (by kernel_rfl) (by kernel_rfl) (by kernel_rfl) (fun _ _ _ h => h) (Or.inl ⟨by rfl, ?_⟩) (by assumption) ?_
    rotate_left
    · intro w hSw; (try dsimp only at hSw); have d1 := (CX.out w hSw).1; have d2 := (CX.out w hSw).2.1; have d3 := (CX.out w hSw).2.2.1; have d4 := (CX.out w hSw).2.2.2; go_simp; try with_reducible rfl
    try simp only [Act.put, List.setIfInBounds_toArray, List.set_cons_zero, List.set_cons_succ]
    have o1 := (OX.out _ hHeld).1
    have o2 := (OX.out _ hHeld).2
    refine heldL_store_int 25 24 (by kernel_rfl) (by kernel_rfl) (by kernel_rfl) (by rfl) (by rfl) o1 o2 ?_
    go_wp2_with fail
    go_ret
    exact effD_some HE.out rfl ((store_end H.out N.out HVA.out HOB.out b vc X1.out).eff HC.out)

end Go.Proofs.YtmlobpapjfkbmaaGreat

/- A model's instructions: sleep, block, wake. -/
namespace Go.Proofs.YtmlobpapjfkbmaaGreat
open Go.RowKit
set_option linter.unusedVariables false
set_option maxRecDepth 20000
set_option linter.unusedSimpArgs false

theorem mv_same {m : MS} {g t : Nat} (h : ¬ S12.mayB (m.st.getD g 0 : Nat) (t : Nat) = true) : m.mv g t = m := by
  unfold MS.mv moveS
  rw [if_neg h]
theorem mv_yes {m : MS} {g t : Nat} (h : S12.mayB (m.st.getD g 0 : Nat) (t : Nat) = true) : m.mv g t = { m with st := m.st.set g t } := by
  unfold MS.mv moveS
  rw [if_pos h]
/-- A state is turned. -/
theorem move_md {w : World} {A : Adr} {t : Nat → Tg} {mb : Nat} {F : Fns} {m : MS} (h : Md w A t mb F m) (n : New w t) (g s : Nat) :
    Calls Tryz.prog 26 #[.pointer (some ⟨A.sb, 0, none⟩), .int .i64 (g : Nat), .int .i64 (s : Nat)] w fun e w' => (∃ r : Int, e = .returned (.int .i64 r)) ∧ MdR w A t mb F (m.mv g s) w' := by
  by_cases hg : g < m.st.length
  · cases hm : S12.mayB (m.st.getD g 0 : Nat) (s : Nat) with
    | true =>
      refine (S12.move_yes h.st g hg _ s rfl hm).mono ?_
      rintro e w' ⟨rfl, hn⟩
      rw [mv_yes hm]
      exact ⟨⟨_, rfl⟩, mdr_nxt h n hn⟩
    | false =>
      refine (S12.move_no h.st g hg _ (s : Nat) rfl hm).mono ?_
      rintro e w' ⟨rfl, hx⟩
      rw [mv_same (by rw [hm]; simp)]
      exact ⟨⟨_, rfl⟩, mdr_ex h n hx⟩
  · refine (S12.move_none h.st (g : Nat) (s : Nat) (.inr ⟨by omega, by omega⟩)).mono ?_
    rintro e w' ⟨rfl, rfl⟩
    have h0 : m.st.getD g 0 = 0 := by simp [Nat.not_lt.1 hg]
    rw [mv_same (by rw [h0]; simp [S12.mayB])]
    exact ⟨⟨_, rfl⟩, mdr_ex h n (Ex.refl _)⟩

theorem mid_md {w w1 : World} {A A1 : Adr} {t t1 : Nat → Tg} {mb : Nat} {F : Fns} {m1 : MS} {cb : Nat} {cc : CmI} {v0 : Int} (h : Md w1 A1 t1 mb F m1) (x : ∀ i, i < w.heap.size → t1 i = t i) (p : A1.pb = A.pb) (hc : Cb w A t cb cc v0) (v : Int) : Md (w1.setCell ⟨cb, 4, none⟩ (.int .i64 v)) A1 t1 mb F m1 :=
  h.ex (Chg.cell (F := fun i => i = cb) w1 ⟨cb, 4, none⟩ _ rfl) (fun i hi => .inr (by have hi : i = cb := hi; rw [hi, x cb hc.box.lt, p]; exact ⟨hc.tag, hc.pb⟩))
theorem mid_new {w1 : World} {t1 : Nat → Tg} {p : Addr} {v : Value} (n : New w1 t1) : New (w1.setCell p v) t1 := n.le (by simp [World.setCell])
theorem eff_mid {w w1 w3 : World} {A A1 : Adr} {t t1 : Nat → Tg} {mb : Nat} {F : Fns} {m3 : MS} {cb : Nat} {cc : CmI} {v0 v : Int} (hc : Cb w A t cb cc v0) (x : ∀ i, i < w.heap.size → t1 i = t i) (c1 : Chg (fun i => (t i).1 ≠ 0) w w1) (p : A1.pb = A.pb) (h3 : MdR (w1.setCell ⟨cb, 4, none⟩ (.int .i64 v)) A1 t1 mb F m3 w3) : EffT w A t mb F cb cc m3 v w3 := by
  obtain ⟨A3, t3, k1, k2, k3, k4, k5⟩ := h3
  have hs : (w1.setCell ⟨cb, 4, none⟩ (.int .i64 v)).heap.size = w1.heap.size := by simp [World.setCell]
  rw [hs] at k3
  have c2 := Chg.cell (F := fun i => i = cb) w1 ⟨cb, 4, none⟩ (.int .i64 v) rfl
  have b1 := hc.box.chg c1 (fun e => e hc.tag)
  have tc : (t1 cb).1 = 0 := by rw [x cb hc.box.lt]; exact hc.tag
  refine ⟨A3, t3, k1, k2, fun i hi => (k3 i (Nat.lt_of_lt_of_le hi c1.size)).trans (x i hi), k4.trans p, (b1.put 4 _).chg k5 (fun e => e tc), ?_⟩
  exact ((c1.weak (fun _ _ h => .inl h)).trans c2 (fun i _ h => .inr h)).trans k5 (fun i hi h => .inl (by rw [x i hi] at h; exact h))

set_option maxHeartbeats 6400000 in
theorem sleep_m {w : World} {A : Adr} {t : Nat → Tg} {mb : Nat} {F : Fns} {m : MS} (h : Md w A t mb F m) (n : New w t) {cb : Nat} {cc : CmI} (hc : Cb w A t cb cc 0) {g : Nat} (hg : g < m.gs.length) (hS : m.sleep.length < 900) (hk : m.k < 1000000) (hcl : m.clock ≤ 1000000000) (op : Int) (a b c : Nat) (hb : b < 256) (hc3 : c < 256) :
    Calls Tryz.prog 64 #[.pointer (some ⟨mb, 0, none⟩), .int .i64 (g : Nat), .pointer (some ⟨A.gb g, 0, none⟩), .agg #[.int .i64 op, .int .i64 (a : Nat), .int .i64 (b : Nat), .int .i64 (c : Nat)], .pointer (some ⟨cb, 4, none⟩)] w
      (EffD w A t mb F cb cc (effM m g 10 a b c)) := by
  have H := Lib.hid h
  have N := Lib.hid n
  have HC := Lib.hid hc
  have HG := Lib.hid hg
  have m0 := fun k => h.box.box.cell k
  have mlt := h.box.box.lt
  have c6 : w.cell? ⟨mb, 6, none⟩ = some (.pointer (some ⟨A.tb, 0, none⟩)) := m0 6
  have c8 : w.cell? ⟨mb, 8, none⟩ = some (.int .i64 (m.clock : Nat)) := m0 8
  have e1 : IntKind.i64.wrap (256 * (b : Int)) = 256 * (b : Int) := by rw [IntKind.wrap_i64]; omega
  have e2 : IntKind.i64.wrap (256 * (b : Int) + (c : Int)) = 256 * (b : Int) + (c : Int) := by rw [IntKind.wrap_i64]; omega
  have e3 : IntKind.i64.wrap (256 * (b : Int) + (c : Int) + 1) = 256 * (b : Int) + (c : Int) + 1 := by rw [IntKind.wrap_i64]; omega
  have KS := Lib.hid (fun W (hW : Ex w W) => T13.ts_add (h.tm.ex hW) hS hk ((m.clock + (256 * b + c + 1) : Nat) : Int) (g : Nat))
  obtain ⟨cl, hcl2⟩ : ∃ cl, m.clock = cl := ⟨_, rfl⟩
  have HE : Hid (effM m g 10 a b c = ({ m with sleep := T13.insT (((m.clock + (256 * b + c + 1) : Nat) : Int), (g : Int), (m.k : Int) + 1) m.sleep, k := m.k + 1 }, 0, some 3)) := Lib.hid rfl
  have HCL := Lib.hid hcl2
  rw [hcl2] at c8 hcl KS HE
  have e4 : IntKind.i64.wrap ((cl : Int) + (256 * (b : Int) + (c : Int) + 1)) = ((cl + (256 * b + c + 1) : Nat) : Int) := by rw [IntKind.wrap_i64]; omega
  obtain ⟨wn, hwn⟩ : ∃ wn, ((cl + (256 * b + c + 1) : Nat) : Int) = wn := ⟨_, rfl⟩
  rw [hwn] at e4 KS HE
  clear h n hc hg m0 hcl2 hwn hS hk
  go_enter Tryz.func64, Tryz.ntmps64
  go_upto_region 1 with fail
  have b0 := Box.fresh w #[.int .i64 op, .int .i64 (a : Nat), .int .i64 (b : Nat), .int .i64 (c : Nat)] 58
  have x0 := Ex.made w (.cells #[.int .i64 op, .int .i64 (a : Nat), .int .i64 (b : Nat), .int .i64 (c : Nat)] 58)
  obtain ⟨ib, hib⟩ : ∃ ib, w.heap.size = ib := ⟨_, rfl⟩
  obtain ⟨W0, hW0⟩ : ∃ W, W = w.alloc (.cells #[.int .i64 op, .int .i64 (a : Nat), .int .i64 (b : Nat), .int .i64 (c : Nat)] 58) := ⟨_, rfl⟩
  rw [hib] at b0 ⊢
  rw [← hW0] at b0 x0 ⊢
  have X0 := Lib.hid x0
  have CX := Lib.hid (fun W (hW : Ex W0 W) => (⟨(b0.ex hW).cell 2, (b0.ex hW).cell 3, ((x0.trans hW).cell (p := ⟨mb, 6, none⟩) mlt).trans c6, ((x0.trans hW).cell (p := ⟨mb, 8, none⟩) mlt).trans c8⟩ : W.cell? ⟨ib, 2, none⟩ = some (.int .i64 (b : Nat)) ∧ W.cell? ⟨ib, 3, none⟩ = some (.int .i64 (c : Nat)) ∧ W.cell? ⟨mb, 6, none⟩ = some (.pointer (some ⟨A.tb, 0, none⟩)) ∧ W.cell? ⟨mb, 8, none⟩ = some (.int .i64 (cl : Nat))))
  clear b0 x0 hW0 hib c6 c8
  have X1 : Hid (Ex w W0.drew) := Lib.hid (X0.out.trans (ex_drw W0))
  refine wp_region_last (S := fun w' => Ex W0 w') 17 18 (by kernel_rfl) (by kernel_rfl) (by kernel_rfl) (ex_drw W0) (fun hHeld => ?_)
  generalize W0.drew = Y0 at *
  refine heldL_take (i := 0) (v := ?_) rfl (by kernel_rfl) (by kernel_rfl) (by kernel_rfl) (by kernel_rfl) (fun _ _ _ h => h) (Or.inl ⟨by rfl, ?_⟩) (by assumption) ?_
  rotate_left
  · intro w hSw; (try dsimp only at hSw); have d1 := (CX.out w hSw).1; have d2 := (CX.out w hSw).2.1; have d3 := (CX.out w hSw).2.2.1; have d4 := (CX.out w hSw).2.2.2; go_simp; try with_reducible rfl
  try simp only [Act.put, List.setIfInBounds_toArray, List.set_cons_zero, List.set_cons_succ]
  refine heldL_take (i := 1) (v := ?_) rfl (by kernel_rfl) (by kernel_rfl) (by kernel_rfl) (by kernel_rfl) (fun _ _ _ h => h) (Or.inl ⟨by rfl, ?_⟩) (by assumption) ?_
  rotate_left
  · intro w hSw; (try dsimp only at hSw); have d1 := (CX.out w hSw).1; have d2 := (CX.out w hSw).2.1; have d3 := (CX.out w hSw).2.2.1; have d4 := (CX.out w hSw).2.2.2; go_simp; try with_reducible rfl
  try simp only [Act.put, List.setIfInBounds_toArray, List.set_cons_zero, List.set_cons_succ]
  refine heldL_take (i := 2) (v := ?_) rfl (by kernel_rfl) (by kernel_rfl) (by kernel_rfl) (by kernel_rfl) (fun _ _ _ h => h) (Or.inl ⟨by rfl, ?_⟩) (by assumption) ?_
  rotate_left
  · intro w hSw; (try dsimp only at hSw); have d1 := (CX.out w hSw).1; have d2 := (CX.out w hSw).2.1; have d3 := (CX.out w hSw).2.2.1; have d4 := (CX.out w hSw).2.2.2; go_simp; try with_reducible rfl
  try simp only [Act.put, List.setIfInBounds_toArray, List.set_cons_zero, List.set_cons_succ]
  refine heldL_take (i := 3) (v := ?_) rfl (by kernel_rfl) (by kernel_rfl) (by kernel_rfl) (by kernel_rfl) (fun _ _ _ h => h) (Or.inl ⟨by rfl, ?_⟩) (by assumption) ?_
  rotate_left
  · intro w hSw; (try dsimp only at hSw); have d1 := (CX.out w hSw).1; have d2 := (CX.out w hSw).2.1; have d3 := (CX.out w hSw).2.2.1; have d4 := (CX.out w hSw).2.2.2; go_simp; try with_reducible rfl
  try simp only [Act.put, List.setIfInBounds_toArray, List.set_cons_zero, List.set_cons_succ]
  refine heldL_take (i := 4) (v := ?_) rfl (by kernel_rfl) (by kernel_rfl) (by kernel_rfl) (by kernel_rfl) (fun _ _ _ h => h) (Or.inl ⟨by rfl, ?_⟩) (by assumption) ?_
  rotate_left
  · intro w hSw; (try dsimp only at hSw); have d1 := (CX.out w hSw).1; have d2 := (CX.out w hSw).2.1; have d3 := (CX.out w hSw).2.2.1; have d4 := (CX.out w hSw).2.2.2; go_simp; try with_reducible rfl
  try simp only [Act.put, List.setIfInBounds_toArray, List.set_cons_zero, List.set_cons_succ]
  refine heldL_take (i := 5) (v := ?_) rfl (by kernel_rfl) (by kernel_rfl) (by kernel_rfl) (by kernel_rfl) (fun _ _ _ h => h) (Or.inl ⟨by rfl, ?_⟩) (by assumption) ?_
  rotate_left
  · intro w hSw; (try dsimp only at hSw); have d1 := (CX.out w hSw).1; have d2 := (CX.out w hSw).2.1; have d3 := (CX.out w hSw).2.2.1; have d4 := (CX.out w hSw).2.2.2; go_simp; try with_reducible rfl
  try simp only [Act.put, List.setIfInBounds_toArray, List.set_cons_zero, List.set_cons_succ]
  refine heldL_take (i := 6) (v := ?_) rfl (by kernel_rfl) (by kernel_rfl) (by kernel_rfl) (by kernel_rfl) (fun _ _ _ h => h) (Or.inl ⟨by rfl, ?_⟩) (by assumption) ?_
  rotate_left
  · intro w hSw; (try dsimp only at hSw); have d1 := (CX.out w hSw).1; have d2 := (CX.out w hSw).2.1; have d3 := (CX.out w hSw).2.2.1; have d4 := (CX.out w hSw).2.2.2; go_simp; try with_reducible rfl
  try simp only [Act.put, List.setIfInBounds_toArray, List.set_cons_zero, List.set_cons_succ]
  refine heldL_take (i := 7) (v := ?_) rfl (by kernel_rfl) (by kernel_rfl) (by kernel_rfl) (by kernel_rfl) (fun _ _ _ h => h) (Or.inl ⟨by rfl, ?_⟩) (by assumption) ?_
  rotate_left
  · intro w hSw; (try dsimp only at hSw); have d1 := (CX.out w hSw).1; have d2 := (CX.out w hSw).2.1; have d3 := (CX.out w hSw).2.2.1; have d4 := (CX.out w hSw).2.2.2; go_simp; try with_reducible rfl
  try simp only [Act.put, List.setIfInBounds_toArray, List.set_cons_zero, List.set_cons_succ]
  refine heldL_take (i := 8) (v := ?_) rfl (by kernel_rfl) (by kernel_rfl) (by kernel_rfl) (by kernel_rfl) (fun _ _ _ h => h) (Or.inl ⟨by rfl, ?_⟩) (by assumption) ?_
  rotate_left
  · intro w hSw; (try dsimp only at hSw); have d1 := (CX.out w hSw).1; have d2 := (CX.out w hSw).2.1; have d3 := (CX.out w hSw).2.2.1; have d4 := (CX.out w hSw).2.2.2; go_simp; try with_reducible rfl
  try simp only [Act.put, List.setIfInBounds_toArray, List.set_cons_zero, List.set_cons_succ]
  refine heldL_take (i := 9) (v := ?_) rfl (by kernel_rfl) (by kernel_rfl) (by kernel_rfl) (by kernel_rfl) (fun _ _ _ h => h) (Or.inl ⟨by rfl, ?_⟩) (by assumption) ?_
  rotate_left
  · intro w hSw; (try dsimp only at hSw); have d1 := (CX.out w hSw).1; have d2 := (CX.out w hSw).2.1; have d3 := (CX.out w hSw).2.2.1; have d4 := (CX.out w hSw).2.2.2; go_simp; try with_reducible rfl
  try simp only [Act.put, List.setIfInBounds_toArray, List.set_cons_zero, List.set_cons_succ]
  refine heldL_take (i := 10) (v := ?_) rfl (by kernel_rfl) (by kernel_rfl) (by kernel_rfl) (by kernel_rfl) (fun _ _ _ h => h) (Or.inl ⟨by rfl, ?_⟩) (by assumption) ?_
  rotate_left
  · intro w hSw; (try dsimp only at hSw); have d1 := (CX.out w hSw).1; have d2 := (CX.out w hSw).2.1; have d3 := (CX.out w hSw).2.2.1; have d4 := (CX.out w hSw).2.2.2; go_simp; try with_reducible rfl
  try simp only [Act.put, List.setIfInBounds_toArray, List.set_cons_zero, List.set_cons_succ]
  refine heldL_take (i := 11) (v := ?_) rfl (by kernel_rfl) (by kernel_rfl) (by kernel_rfl) (by kernel_rfl) (fun _ _ _ h => h) (Or.inl ⟨by rfl, ?_⟩) (by assumption) ?_
  rotate_left
  · intro w hSw; (try dsimp only at hSw); have d1 := (CX.out w hSw).1; have d2 := (CX.out w hSw).2.1; have d3 := (CX.out w hSw).2.2.1; have d4 := (CX.out w hSw).2.2.2; go_simp; try with_reducible rfl
  try simp only [Act.put, List.setIfInBounds_toArray, List.set_cons_zero, List.set_cons_succ]
  refine heldL_take (i := 12) (v := ?_) rfl (by kernel_rfl) (by kernel_rfl) (by kernel_rfl) (by kernel_rfl) (fun _ _ _ h => h) (Or.inl ⟨by rfl, ?_⟩) (by assumption) ?_
  rotate_left
  · intro w hSw; (try dsimp only at hSw); have d1 := (CX.out w hSw).1; have d2 := (CX.out w hSw).2.1; have d3 := (CX.out w hSw).2.2.1; have d4 := (CX.out w hSw).2.2.2; go_simp; try with_reducible rfl
  try simp only [Act.put, List.setIfInBounds_toArray, List.set_cons_zero, List.set_cons_succ]
  refine heldL_take (i := 13) (v := ?_) rfl (by kernel_rfl) (by kernel_rfl) (by kernel_rfl) (by kernel_rfl) (fun _ _ _ h => h) (Or.inl ⟨by rfl, ?_⟩) (by assumption) ?_
  rotate_left
  · intro w hSw; (try dsimp only at hSw); have d1 := (CX.out w hSw).1; have d2 := (CX.out w hSw).2.1; have d3 := (CX.out w hSw).2.2.1; have d4 := (CX.out w hSw).2.2.2; go_simp; try with_reducible rfl
  try simp only [Act.put, List.setIfInBounds_toArray, List.set_cons_zero, List.set_cons_succ]
  refine heldL_take (i := 14) (v := ?_) rfl (by kernel_rfl) (by kernel_rfl) (by kernel_rfl) (by kernel_rfl) (fun _ _ _ h => h) (Or.inl ⟨by rfl, ?_⟩) (by assumption) ?_
  rotate_left
  · intro w hSw; (try dsimp only at hSw); have d1 := (CX.out w hSw).1; have d2 := (CX.out w hSw).2.1; have d3 := (CX.out w hSw).2.2.1; have d4 := (CX.out w hSw).2.2.2; go_simp; try with_reducible rfl
  try simp only [Act.put, List.setIfInBounds_toArray, List.set_cons_zero, List.set_cons_succ]
  refine heldL_take (i := 15) (v := ?_) rfl (by kernel_rfl) (by kernel_rfl) (by kernel_rfl) (by kernel_rfl) (fun _ _ _ h => h) (Or.inl ⟨by rfl, ?_⟩) (by assumption) ?_
  rotate_left
  · intro w hSw; (try dsimp only at hSw); have d1 := (CX.out w hSw).1; have d2 := (CX.out w hSw).2.1; have d3 := (CX.out w hSw).2.2.1; have d4 := (CX.out w hSw).2.2.2; go_simp; try with_reducible rfl
  try simp only [Act.put, List.setIfInBounds_toArray, List.set_cons_zero, List.set_cons_succ]
  refine heldL_take (i := 16) (v := ?_) rfl (by kernel_rfl) (by kernel_rfl) (by kernel_rfl) (by kernel_rfl) (fun _ _ _ h => h) (Or.inl ⟨by rfl, ?_⟩) (by assumption) ?_
  rotate_left
  · intro w hSw; (try dsimp only at hSw); have d1 := (CX.out w hSw).1; have d2 := (CX.out w hSw).2.1; have d3 := (CX.out w hSw).2.2.1; have d4 := (CX.out w hSw).2.2.2; go_simp; try with_reducible rfl
  try simp only [Act.put, List.setIfInBounds_toArray, List.set_cons_zero, List.set_cons_succ]
  refine heldL_ready (rs := [17]) (by kernel_rfl) (by simp) ?_
  refine AllL.cons rfl (fun K hK => ?_) AllL.nil
  go_simp
  go_at_call 84
  refine (KS.out _ X1.out).mono ?_
  rintro e w1 ⟨rfl, ⟨o1, ht, hn⟩, hch⟩
  have HT := Lib.hid ht
  have HNO := Lib.hid hn
  have HCH := Lib.hid hch
  clear ht hn hch
  refine hK.out _ _ (fun h => (h rfl).elim) (fun _ => ?_)
  clear hK K
  try simp only [Act.put, List.setIfInBounds_toArray, List.set_cons_zero, List.set_cons_succ]
  refine heldL_done (by kernel_rfl) ?_ _
  go_wp2_with fail
  go_ret
  obtain rfl := HCL.out
  exact effD_some HE.out rfl ((MdR.pre X1.out (mdr_timers (H.out.exs X1.out) (N.out.le X1.out.size) HCH.out HT.out HNO.out)).eff HC.out)

set_option maxHeartbeats 6400000 in
theorem block_m {w : World} {A : Adr} {t : Nat → Tg} {mb : Nat} {F : Fns} {m : MS} (h : Md w A t mb F m) (n : New w t) {cb : Nat} {cc : CmI} (hc : Cb w A t cb cc 0) {g : Nat} (hg : g < m.gs.length) (hs : ∀ i, (m.wait.getD i []).length ≤ 100000) (op : Int) (a b c : Nat) (ha : a < 32) :
    Calls Tryz.prog 65 #[.pointer (some ⟨mb, 0, none⟩), .int .i64 (g : Nat), .pointer (some ⟨A.gb g, 0, none⟩), .agg #[.int .i64 op, .int .i64 (a : Nat), .int .i64 (b : Nat), .int .i64 (c : Nat)], .pointer (some ⟨cb, 4, none⟩)] w
      (EffD w A t mb F cb cc (effM m g 11 a b c)) := by
  have H := Lib.hid h
  have N := Lib.hid n
  have HC := Lib.hid hc
  have HG := Lib.hid hg
  have m0 := fun k => h.box.box.cell k
  have mlt := h.box.box.lt
  have c7 : w.cell? ⟨mb, 7, none⟩ = some (.pointer (some ⟨A.wb, 0, none⟩)) := m0 7
  have KS := Lib.hid (fun W (hW : Ex w W) => wait_any (h.exs hW) (n.le hW.size) hs a g ha)
  have HE : Hid (effM m g 11 a b c = ((if waits m g then m else { m with wait := m.wait.set a (m.wait.getD a [] ++ [g]) }), 0, some 3)) := Lib.hid rfl
  obtain ⟨m', hm'⟩ : ∃ m', (if waits m g then m else { m with wait := m.wait.set a (m.wait.getD a [] ++ [g]) }) = m' := ⟨_, rfl⟩
  rw [hm'] at KS HE
  clear h n hc hg m0 hm' hs
  go_enter Tryz.func65, Tryz.ntmps65
  go_upto_region 1 with fail
  go_region_with (go_at_call 85; refine (KS.out _ ((Ex.made _ _).trans (Ex.drawn _ _))).mono ?_; rintro e w1 ⟨⟨r, rfl⟩, hr⟩; have HR := Lib.hid hr; clear hr)
  all_goals
    go_wp2_with fail
    go_ret
    exact effD_some HE.out rfl (MdR.eff (MdR.pre ((Ex.made _ _).trans (Ex.drawn _ _)) HR.out) HC.out)

set_option maxHeartbeats 6400000 in
theorem wake_m {w : World} {A : Adr} {t : Nat → Tg} {mb : Nat} {F : Fns} {m : MS} (h : Md w A t mb F m) (n : New w t) {cb : Nat} {cc : CmI} (hc : Cb w A t cb cc 0) {g : Nat} (hg : g < m.gs.length) (hs : ∀ i, (m.wait.getD i []).length ≤ 100000) (op : Int) (a b c : Nat) (ha : a < 32) :
    Calls Tryz.prog 66 #[.pointer (some ⟨mb, 0, none⟩), .int .i64 (g : Nat), .pointer (some ⟨A.gb g, 0, none⟩), .agg #[.int .i64 op, .int .i64 (a : Nat), .int .i64 (b : Nat), .int .i64 (c : Nat)], .pointer (some ⟨cb, 4, none⟩)] w
      (EffD w A t mb F cb cc (effM m g 12 a b c)) := by
  have H := Lib.hid h
  have N := Lib.hid n
  have HC := Lib.hid hc
  have HG := Lib.hid hg
  have m0 := fun k => h.box.box.cell k
  have mlt := h.box.box.lt
  have c7 : w.cell? ⟨mb, 7, none⟩ = some (.pointer (some ⟨A.wb, 0, none⟩)) := m0 7
  have KS := Lib.hid (fun W (hW : Ex w W) => wake_any (h.exs hW) (n.le hW.size) hs a ha)
  unfold WakeR at KS
  cases hl : m.wait.getD a [] with
  | nil =>
    rw [hl] at KS
    have HE : Hid (effM m g 12 a b c = (m, -1, some 1)) := Lib.hid (by simp only [effM]; rw [hl])
    have v1 : w.cell? ⟨cb, 4, none⟩ = some (.int .i64 0) := hc.box.cell 4
    have v2 := hc.box.soft 4
    have clt := hc.box.lt
    clear h n hc hg m0 hl hs
    go_enter Tryz.func66, Tryz.ntmps66
    go_upto_region 1 with fail
    go_region_with (go_at_call 86; refine (KS.out _ ((Ex.made _ _).trans (Ex.drawn _ _))).mono ?_; rintro e w1 ⟨rfl, rfl⟩)
    all_goals
      go_wp2_with fail
      go_ret
      have x1 := (Ex.made w (.cells #[.int .i64 op, .int .i64 (a : Nat), .int .i64 (b : Nat), .int .i64 (c : Nat)] 58)).trans (Ex.drawn _ 1)
      exact effD_some HE.out rfl (eff_v H.out N.out HC.out (((x1.chg _).trans (Chg.cell (F := fun i => i = cb) _ ⟨cb, 4, none⟩ _ rfl) (fun _ _ h => h)).trans (Chg.cell (F := fun i => i = cb) _ ⟨cb, 4, none⟩ _ rfl) (fun _ _ h => h)) (((HC.out.box.ex x1).put 4 _).put 4 _))
  | cons x l =>
    rw [hl] at KS
    have HE : Hid (effM m g 12 a b c = (({ m with wait := m.wait.set a l }).mv x 1, (x : Int), some 1)) := Lib.hid (by simp only [effM]; rw [hl])
    have clt := hc.box.lt
    clear h n hc hg m0 hl hs
    go_enter Tryz.func66, Tryz.ntmps66
    go_upto_region 1 with fail
    go_region_with (go_at_call 86; refine (KS.out _ ((Ex.made _ _).trans (Ex.drawn _ _))).mono ?_; rintro e w1 ⟨rfl, hr⟩; have HR := Lib.hid (MdR.pre ((Ex.made _ _).trans (Ex.drawn _ _)) hr); clear hr)
    all_goals
      obtain ⟨A1, t1, M1, N1, X1, P1, C1⟩ := HR.out
      have HM1 := Lib.hid M1
      have HN1 := Lib.hid N1
      have HX1 := Lib.hid X1
      have HP1 := Lib.hid P1
      have HC1 := Lib.hid C1
      have bx1 := HC.out.box.chg C1 (fun e => e HC.out.tag)
      have v1 : w1.cell? ⟨cb, 4, none⟩ = some (.int .i64 0) := bx1.cell 4
      have v2 := bx1.soft 4
      have y2 : w1.cell? ⟨mb, 2, none⟩ = some (.pointer (some ⟨A1.sb, 0, none⟩)) := M1.box.box.cell 2
      have hmc : mb ≠ cb := fun e => by have h1 := H.out.box.tag; rw [e] at h1; have h2 := HC.out.tag; rw [h1] at h2; simp at h2
      have KM := Lib.hid (move_md (mid_md M1 X1 P1 HC.out (x : Int)) (mid_new N1) x 1)
      clear M1 N1 X1 P1 C1 bx1 HR
      go_wp2_with fail
      refine KM.out.mono ?_
      rintro e w3 ⟨⟨r, rfl⟩, h3⟩
      have H3 := Lib.hid h3
      clear h3 v1 v2 y2
      go_wp2_with fail
      go_ret
      exact effD_some HE.out rfl (eff_mid HC.out HX1.out HC1.out HP1.out H3.out)

end Go.Proofs.YtmlobpapjfkbmaaGreat

/- A model's spawn. -/
namespace Go.Proofs.YtmlobpapjfkbmaaGreat
open Go.RowKit
set_option linter.unusedVariables false
set_option maxRecDepth 20000
set_option linter.unusedSimpArgs false

theorem info_gor : (Tryz.prog.info? 78).map (fun i => (i.zero, i.size, i.bytes)) = some (some (.pointer none), 1, 8) := by kernel_rfl
theorem states_md {w w' : World} {A : Adr} {t : Nat → Tg} {mb : Nat} {F : Fns} {m : MS} (h : Md w A t mb F m) (n : New w t) {L : List Nat} (k : S12.Nxt w A.sb A.sv L w') :
    ∃ v' t', Md w' { A with sv := v' } t' mb F { m with st := L } ∧ New w' t' ∧ (∀ i, i < w.heap.size → t' i = t i) ∧ Chg (fun i => (t i).1 ≠ 0) w w' ∧ Chg (S12.Of A.sb A.sv) w w' := by
  obtain ⟨v', h1, h2, h3⟩ := k
  have h' := h.retag n (tagv_old w t v'.ownBlock (3, 0))
  refine ⟨v', tagv w t v'.ownBlock (3, 0), h'.states (P := S12.Of A.sb A.sv) v' L h1 (fun b hb => tagv_at hb ((h3 b hb).imp (h.stt.2 b) id)) h2 ?_, tagv_new h2.size (fun b hb => row_lt h1.row hb), tagv_old _ _ _ _, h2.weak ?_, h2⟩
  · rintro i (rfl | hi)
    · left; rw [h'.stt.1]; simp
    · left; rw [h'.stt.2 i hi]; simp
  · rintro i - (rfl | hi)
    · rw [h.stt.1]; simp
    · rw [h.stt.2 i hi]; simp

def gor0 (f : Nat) : Array Value := #[.int .i64 (f : Nat), .int .i64 0, .int .i64 0, .int .i64 0, .int .i64 0, .int .i64 0, .int .i64 0, .int .i64 0, .int .i64 0, .int .i64 0, .int .i64 0, .int .i64 0, .int .i64 0, .int .i64 0, .int .i64 0, .int .i64 0, .int .i64 0, .int .i64 0, .int .i64 0]
theorem gor0_set (f v : Nat) : (gor0 f).setIfInBounds 3 (.int .i64 (v : Nat)) = gcells (newG f v) := rfl

def SpawnR (w : World) (A : Adr) (t : Nat → Tg) (mb : Nat) (F : Fns) (m : MS) (f v : Nat) (e : Ending) (w' : World) : Prop :=
  if m.gs.length < 1024 then e = .returned (.int .i64 (m.gs.length : Nat)) ∧ MdR w A t mb F (spawnM m f v) w' ∧ ∀ i, i < m.gs.length → Box w' (A.gb i) (gcells (m.at i)) 81 else e = .returned (.int .i64 (-1)) ∧ w = w'

/-- The end of it. -/
theorem spawn_end {w w1 w2 : World} {A : Adr} {t t1 : Nat → Tg} {mb : Nat} {F : Fns} {m : MS} {f v : Nat} {v1 : Value} (h : Md w A t mb F m) (M1 : Md w1 { A with sv := v1 } t1 mb F { m with st := m.st ++ [1] }) (N1 : New w1 t1) (X1 : ∀ i, i < w.heap.size → t1 i = t i)
    (C1 : Chg (fun i => (t i).1 ≠ 0) w w1) (C2 : Chg (S12.Of A.sb A.sv) w w1) {n g' cap : Nat} (hn : m.gs.length = n)
    (hown : w2.ownsRow 0 78 1 (.slice (some ⟨g', 0, none⟩) (n + 1) cap) (n + 1) (ptrs A.gb n ++ [.pointer (some ⟨w1.heap.size, 0, none⟩)]))
    (hg : ((w1.alloc (.cells (gor0 f) 81)).alloc (.cells #[.pointer (some ⟨w1.heap.size, 0, none⟩)] 78)).grownBy w2 A.gv.ownBlock)
    (hor : A.gv.ownBlock = some g' ∨ ((w1.alloc (.cells (gor0 f) 81)).alloc (.cells #[.pointer (some ⟨w1.heap.size, 0, none⟩)] 78)).heap.size ≤ g') {W : World}
    (hW : W = (w2.setCell ⟨mb, 3, none⟩ (.slice (some ⟨g', 0, none⟩) (n + 1) cap)).setCell ⟨w1.heap.size, 3, none⟩ (.int .i64 (v : Nat))) :
    MdR w A t mb F (spawnM m f v) W ∧ ∀ i, i < m.gs.length → Box W (A.gb i) (gcells (m.at i)) 81 := by
  subst hW hn
  have x1 : Ex w1 ((w1.alloc (.cells (gor0 f) 81)).alloc (.cells #[.pointer (some ⟨w1.heap.size, 0, none⟩)] 78)) := (Ex.made _ _).trans (Ex.made _ _)
  have hsz : ((w1.alloc (.cells (gor0 f) 81)).alloc (.cells #[.pointer (some ⟨w1.heap.size, 0, none⟩)] 78)).heap.size = w1.heap.size + 2 := by simp
  rw [hsz] at hor
  have gvlt : ∀ b, A.gv.ownBlock = some b → b < w1.heap.size := fun b hb => row_lt M1.grow.row hb
  have gvt : ∀ b, A.gv.ownBlock = some b → t1 b = (4, 0) := fun b hb => M1.grow.tag b hb
  have mlt : mb < w1.heap.size := M1.box.box.lt
  have mne : A.gv.ownBlock ≠ some mb := fun e => by have h1 := gvt _ e; rw [M1.box.tag] at h1; simp at h1
  have gm : g' ≠ mb := by
    rcases hor with e | e
    · intro e2; exact mne (e2 ▸ e)
    · omega
  have gn : g' ≠ w1.heap.size := by
    rcases hor with e | e
    · have := gvlt _ e; omega
    · omega
  have k1 := (x1.chg (fun i => i = mb ∨ A.gv.ownBlock = some i)).trans (Chg.grown (F := fun i => i = mb ∨ A.gv.ownBlock = some i) hg (fun i hi => .inr hi)) (fun _ _ h => h)
  have k2 := k1.trans (Chg.cell (F := fun i => i = mb ∨ A.gv.ownBlock = some i) w2 ⟨mb, 3, none⟩ (.slice (some ⟨g', 0, none⟩) (m.gs.length + 1) cap) (.inl rfl)) (fun _ _ h => h)
  have k3 := k2.trans (Chg.cell (F := fun i => i = w1.heap.size) _ ⟨w1.heap.size, 3, none⟩ (.int .i64 (v : Nat)) rfl) (fun i hi h => absurd h (by omega))
  have bm2 : Box w2 mb (mcells A m.clock) 70 := (hg.block mb (by rw [hsz]; omega) (fun e => mne e.symm)).trans (M1.box.box.ex x1)
  have bn0 : Box ((w1.alloc (.cells (gor0 f) 81)).alloc (.cells #[.pointer (some ⟨w1.heap.size, 0, none⟩)] 78)) w1.heap.size (gor0 f) 81 := (Box.fresh w1 _ _).ex (Ex.made _ _)
  have bn2 : Box w2 w1.heap.size (gor0 f) 81 := (hg.block w1.heap.size (by rw [hsz]; omega) (fun e => by have := gvlt _ e.symm; omega)).trans bn0
  have bm3 := (bm2.put 3 (.slice (some ⟨g', 0, none⟩) (m.gs.length + 1) cap)).put_other (show mb ≠ w1.heap.size by omega) 3 (.int .i64 (v : Nat))
  have bn3 := (bn2.put_other (show w1.heap.size ≠ mb by omega) 3 (.slice (some ⟨g', 0, none⟩) (m.gs.length + 1) cap)).put 3 (.int .i64 (v : Nat))
  rw [gor0_set] at bn3
  have ho3 := row_chg (F := fun i => i = mb ∨ i = w1.heap.size) hown (((Chg.cell (F := fun i => i = mb ∨ i = w1.heap.size) w2 ⟨mb, 3, none⟩ (.slice (some ⟨g', 0, none⟩) (m.gs.length + 1) cap) (.inl rfl)).trans (Chg.cell (F := fun i => i = mb ∨ i = w1.heap.size) _ ⟨w1.heap.size, 3, none⟩ (.int .i64 (v : Nat)) (.inr rfl)) (fun _ _ h => h))) (fun b hb e => by
    cases hb
    rcases e with e | e
    · exact gm e
    · exact gn e)
  have R1 : MdR w A t mb F { m with st := m.st ++ [1] } w1 := ⟨_, t1, M1, N1, X1, rfl, C1⟩
  have R2 : MdR w1 { A with sv := v1 } t1 mb F { m with st := m.st ++ [1], gs := m.gs ++ [newG f v] } _ := mdr_gnew M1 N1 (gv := .slice (some ⟨g', 0, none⟩) (m.gs.length + 1) cap) (b := w1.heap.size) k3 bm3 ho3
    (fun b hb => by
      cases hb
      rcases hor with e | e
      · exact .inl e
      · right; show w1.heap.size ≤ g'; omega) bn3 ⟨Nat.le_refl _, fun e => by cases e; exact gn rfl⟩
  obtain ⟨A3, t3, k4, k5, k6, k7, k8⟩ := R2
  refine ⟨⟨A3, t3, k4, k5, fun i hi => (k6 i (Nat.lt_of_lt_of_le hi C1.size)).trans (X1 i hi), k7, C1.trans k8 (fun i hi hf => by rw [X1 i hi] at hf; exact hf)⟩, fun i hi => ?_⟩
  have bg := (M1.gor i hi)
  refine bg.box.chg k3 ?_
  rintro (e | e)
  · have h1 := bg.tag; rw [e] at h1; have h2 := M1.box.tag; rw [h1] at h2; simp at h2
  · have h1 := bg.tag; rw [gvt _ e] at h1; simp at h1

set_option maxHeartbeats 6400000 in
theorem spawn_md {w : World} {A : Adr} {t : Nat → Tg} {mb : Nat} {F : Fns} {m : MS} (h : Md w A t mb F m) (n : New w t) (hst : m.st.length = m.gs.length) (f v : Nat) :
    Calls Tryz.prog 23 #[.pointer (some ⟨mb, 0, none⟩), .int .i64 (f : Nat), .int .i64 (v : Nat)] w (SpawnR w A t mb F m f v) := by
  have H := Lib.hid h
  have c2 : w.cell? ⟨mb, 2, none⟩ = some (.pointer (some ⟨A.sb, 0, none⟩)) := h.box.box.cell 2
  unfold SpawnR
  by_cases hl : m.gs.length < 1024
  · simp only [if_pos hl]
    have K := Lib.hid (S12.spawn_any h.st (by omega))
    rw [hst] at K
    obtain ⟨k, hk⟩ : ∃ k, m.gs.length = k := ⟨_, rfl⟩
    have HK := Lib.hid hk
    have HST := Lib.hid hst
    have N := Lib.hid n
    obtain ⟨m', hm'⟩ : ∃ m', spawnM m f v = m' := ⟨_, rfl⟩
    rw [hm']
    have HM := Lib.hid hm'
    have HQ : Hid (∀ W, (MdR w A t mb F (spawnM m f v) W ∧ ∀ i, i < m.gs.length → Box W (A.gb i) (gcells (m.at i)) 81) → MdR w A t mb F m' W ∧ ∀ i, i < k → Box W (A.gb i) (gcells (m.at i)) 81) := Lib.hid (fun W hW => by rw [hm', hk] at hW; exact hW)
    rw [hk] at K hl ⊢
    clear h n hst hk hm'
    go_enter Tryz.func23, Tryz.ntmps23
    go_wp2_with fail
    refine K.out.mono ?_
    rintro e w1 ⟨rfl, hn⟩
    obtain ⟨v1, t1, M1, N1, X1, C1, C2⟩ := states_md H.out N.out hn
    have hgr := M1.grow.row
    have c3 : w1.cell? ⟨mb, 3, none⟩ = some A.gv := M1.box.box.cell 3
    have f3 := M1.box.box.soft 3
    have mlt : mb < w1.heap.size := M1.box.box.lt
    have mne : A.gv.ownBlock ≠ some mb := fun e => by have h1 := M1.grow.tag _ e; rw [M1.box.tag] at h1; simp at h1
    have hsz : w.heap.size ≤ w1.heap.size := C1.size
    have bm1 := M1.box.box
    have HBM := Lib.hid bm1
    have HGR : Hid (w1.ownsRow 0 78 1 A.gv k (ptrs A.gb k)) := Lib.hid (by have := hgr; rw [show MS.gs { m with st := m.st ++ [1] } = m.gs from rfl, HK.out] at this; exact this)
    have HM1 := Lib.hid M1
    have HN1 := Lib.hid N1
    have HX1 := Lib.hid X1
    have HC1 := Lib.hid C1
    have HC2 := Lib.hid C2
    have HNE := Lib.hid mne
    clear M1 N1 X1 C1 C2 hn hgr mne bm1 c2
    obtain ⟨gv, hgv⟩ : ∃ gv, A.gv = gv := ⟨_, rfl⟩
    rw [hgv] at c3 HGR HNE
    have HGV := Lib.hid hgv
    clear hgv
    obtain ⟨i0, hi, hz0, hz1, hz2⟩ := info_parts info_gor
    have s1 : Hid (((w1.alloc (.cells (gor0 f) 81)).alloc (.cells #[.pointer (some ⟨w1.heap.size, 0, none⟩)] 78)).ownsRow 0 78 1 gv k (ptrs A.gb k)) := Lib.hid ((HGR.out.alloc _).alloc _)
    have s2 : Hid (∀ (j : Nat) (u : Value), [Value.pointer (some ⟨w1.heap.size, 0, none⟩)][j]? = some u → ((w1.alloc (.cells (gor0 f) 81)).alloc (.cells #[.pointer (some ⟨w1.heap.size, 0, none⟩)] 78)).cell? ((⟨w1.heap.size + 1, 0, none⟩ : Addr).add j) = some u) := Lib.hid (by
      have := one_new (w1.alloc (.cells (gor0 f) 81)) (.pointer (some ⟨w1.heap.size, 0, none⟩)) 78
      simpa using this)
    unfold gor0 at s1 s2
    go_wp2_with (at_builtin; refine wpList_append_mine _ rfl (.tmp 23) (.tmp 27) 68 rfl 0 78 i0 (.pointer none) 1 8 Tryz.underlying68 hi hz0 hz1 hz2 rfl (by decide) _ _ _ rfl s1.out ⟨w1.heap.size + 1, 0, none⟩ 1 1 [.pointer (some ⟨w1.heap.size, 0, none⟩)] rfl rfl s2.out (one_cell rfl) (by unfold maxLen; omega) (by omega) (Nat.zero_le _) (by omega) ?_)
    intro g' cap w2 hown hgrow hor hlt hc1 hc2
    have HO := Lib.hid hown
    have HG := Lib.hid hgrow
    have HOR := Lib.hid hor
    have bm2 : Box w2 mb (mcells { A with sv := v1 } m.clock) 70 := (hgrow.block mb (by simp; omega) (fun e => HNE.out e.symm)).trans ((HBM.out.ex (Ex.made w1 _)).ex (Ex.made _ _))
    have c3 : w2.cell? ⟨mb, 3, none⟩ = some gv := by rw [bm2.cell, ← HGV.out]; rfl
    have f3 := bm2.soft 3
    have hgm : g' ≠ mb := by
      rcases hor with e | e
      · intro e2; exact HNE.out (e2 ▸ e)
      · omega
    have gvlt : ∀ b, gv.ownBlock = some b → b < w1.heap.size := fun b hb => row_lt HGR.out hb
    have hgn : g' ≠ w1.heap.size := by
      rcases hor with e | e
      · have := gvlt _ e; omega
      · omega
    have bn2 : Box w2 w1.heap.size (gor0 f) 81 := (hgrow.block w1.heap.size (by simp; omega) (fun e => by have := gvlt _ e.symm; omega)).trans ((Box.fresh w1 _ _).ex (Ex.made _ _))
    have n3 : w2.cell? ⟨w1.heap.size, 3, none⟩ = some (.int .i64 0) := bn2.cell 3
    have fn3 := bn2.soft 3
    have gk : w2.cell? ⟨g', k, none⟩ = some (.pointer (some ⟨w1.heap.size, 0, none⟩)) := by
      rw [hown.cellAt k (by omega)]
      simp [ptrs]
    have hmn : mb ≠ w1.heap.size := by omega
    have hc1' : (k : Int) + 1 ≤ (cap : Int) := by omega
    clear hown hgrow hor bm2 bn2 gvlt
    go_wp2_with fail
    go_ret
    refine ⟨rfl, HQ.out _ ?_⟩
    obtain rfl := HGV.out
    exact spawn_end H.out HM1.out HN1.out HX1.out HC1.out HC2.out HK.out HO.out HG.out (HOR.out.imp id (fun h => by simp; omega)) rfl
  · simp only [if_neg hl]
    have K := Lib.hid (S12.spawn_full h.st (by omega))
    clear h n hl hst
    go_enter Tryz.func23, Tryz.ntmps23
    go_wp2_with fail
    refine K.out.mono ?_
    rintro e w1 ⟨rfl, rfl⟩
    go_wp2_with fail
    go_ret
    exact ⟨rfl, rfl⟩

end Go.Proofs.YtmlobpapjfkbmaaGreat

