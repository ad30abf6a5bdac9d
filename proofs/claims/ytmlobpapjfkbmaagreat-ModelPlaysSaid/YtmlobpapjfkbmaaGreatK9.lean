/- Part 9 of what is proved of the program of layer 16: OpsE16, OpsF16, Catch16, Inst16, DoA16. -/
import Derived.Test.YtmlobpapjfkbmaaGreatK8
import Derived.Deep.AppendLies
import Derived.Deep.RegionLaw
import Derived.Tactics
import Derived.Tactics2
import Derived.Defers
import Derived.Recover
import Derived.Laws.Pointers
/- A model's instructions: spawn, alloc. -/
namespace Go.Proofs.YtmlobpapjfkbmaaGreat
open Go.RowKit
set_option linter.unusedVariables false
set_option maxRecDepth 20000
set_option linter.unusedSimpArgs false

theorem EffT.val {w w1 : World} {A : Adr} {t : Nat → Tg} {mb : Nat} {F : Fns} {m' : MS} {cb : Nat} {cc : CmI} {v v0 : Int} (h : EffT w A t mb F cb cc m' v w1) (hc : Cb w A t cb cc v0) (v' : Int) : EffT w A t mb F cb cc m' v' (w1.setCell ⟨cb, 4, none⟩ (.int .i64 v')) := by
  obtain ⟨A', t', k1, k2, k3, k4, k5, k6⟩ := h
  have c2 := Chg.cell (F := fun i => i = cb) w1 ⟨cb, 4, none⟩ (.int .i64 v') rfl
  have hs : (w1.setCell ⟨cb, 4, none⟩ (.int .i64 v')).heap.size = w1.heap.size := by simp [World.setCell]
  refine ⟨A', t', k1.ex c2 (fun i hi => .inr ?_), k2.le (by rw [hs]; exact Nat.le_refl _), k3, k4, k5.put 4 _, k6.trans c2 (fun i _ h => .inr h)⟩
  have hi : i = cb := hi
  rw [hi, k3 cb hc.box.lt, k4]
  exact ⟨hc.tag, hc.pb⟩

set_option maxHeartbeats 12800000 in
theorem begin_m {w : World} {A : Adr} {t : Nat → Tg} {mb : Nat} {F : Fns} {m : MS} (h : Md w A t mb F m) (n : New w t) {cb : Nat} {cc : CmI} (hc : Cb w A t cb cc 0) {g : Nat} (hg : g < m.gs.length) (hl : (m.at g).stack.length = 16) (hst : m.st.length = m.gs.length) (op : Int) (a b c : Nat) (hb : b < 16) :
    Calls Tryz.prog 62 #[.pointer (some ⟨mb, 0, none⟩), .int .i64 (g : Nat), .pointer (some ⟨A.gb g, 0, none⟩), .agg #[.int .i64 op, .int .i64 (a : Nat), .int .i64 (b : Nat), .int .i64 (c : Nat)], .pointer (some ⟨cb, 4, none⟩)] w
      (EffD w A t mb F cb cc (effM m g 8 a b c)) := by
  have H := Lib.hid h
  have N := Lib.hid n
  have HC := Lib.hid hc
  have HG := Lib.hid hg
  have hB := (h.gor g hg).box
  have HB := Lib.hid hB
  have hlt := hB.lt
  have clt := hc.box.lt
  have m0 := fun k => h.box.box.cell k
  have mlt := h.box.box.lt
  have xb := gcells_at (m.at g) b (by omega)
  rw [← hB.cell] at xb
  have fb := hB.soft (3 + b)
  obtain ⟨vb, hvb⟩ : ∃ v, (m.at g).val b = v := ⟨_, rfl⟩
  rw [hvb] at xb
  have HVb := Lib.hid hvb
  have ib : (b : Int) < 16 := by omega
  have KS := Lib.hid (fun W (hW : Ex w W) => spawn_md (h.exs hW) (n.le hW.size) hst a vb)
  unfold SpawnR at KS
  obtain ⟨gb, hgb⟩ : ∃ gb, A.gb g = gb := ⟨_, rfl⟩
  rw [hgb] at hB HB hlt xb fb ⊢
  have HGB := Lib.hid hgb
  by_cases hk : m.gs.length < 1024
  · simp only [if_pos hk] at KS
    have HE : Hid (effM m g 8 a b c = (spawnM m a vb, (m.gs.length : Int), some 1)) := Lib.hid (by simp only [effM]; rw [HVb.out, if_pos hk])
    obtain ⟨k, hkk⟩ : ∃ k, m.gs.length = k := ⟨_, rfl⟩
    rw [hkk] at HE
    have HKK := Lib.hid hkk
    have hk0 : (0 : Int) ≤ (k : Int) := by omega
    clear h n hc hg hB hl hst hgb m0 hvb hkk
    go_enter Tryz.func62, Tryz.ntmps62
    go_upto_region 1 with fail
    have b0 := Box.fresh w #[.int .i64 op, .int .i64 (a : Nat), .int .i64 (b : Nat), .int .i64 (c : Nat)] 58
    have x0 := Ex.made w (.cells #[.int .i64 op, .int .i64 (a : Nat), .int .i64 (b : Nat), .int .i64 (c : Nat)] 58)
    obtain ⟨ib, hib⟩ : ∃ ib, w.heap.size = ib := ⟨_, rfl⟩
    obtain ⟨W0, hW0⟩ : ∃ W, W = w.alloc (.cells #[.int .i64 op, .int .i64 (a : Nat), .int .i64 (b : Nat), .int .i64 (c : Nat)] 58) := ⟨_, rfl⟩
    rw [hib] at b0 ⊢
    rw [← hW0] at b0 x0 ⊢
    have HIB := Lib.hid hib
    have X0 := Lib.hid x0
    have B0 := Lib.hid b0
    have X1 : Hid (Ex w W0.drew) := Lib.hid (X0.out.trans (ex_drw W0))
    have XB : Hid ((gcells (m.at g))[3 + b]? = some (.int .i64 (vb : Nat))) := Lib.hid ((HB.out.cell _).symm.trans xb)
    clear b0 x0 hW0 hib xb fb
    refine wp_region_last (S := fun w' => Box w' ib #[.int .i64 op, .int .i64 (a : Nat), .int .i64 (b : Nat), .int .i64 (c : Nat)] 58 ∧ Box w' gb (gcells (m.at g)) 81) 13 14 (by kernel_rfl) (by kernel_rfl) (by kernel_rfl) ⟨B0.out.ex (ex_drw W0), HB.out.ex X1.out⟩ (fun hHeld => ?_)
    generalize W0.drew = Y0 at *
    refine heldL_take (i := 0) (v := ?_) rfl (by kernel_rfl) (by kernel_rfl) (by kernel_rfl) (by kernel_rfl) (fun _ _ _ h => h) (Or.inl ⟨by rfl, ?_⟩) (by assumption) ?_
    rotate_left
    · intro w hSw; (try dsimp only at hSw); have d1 : w.cell? ⟨ib, 1, none⟩ = some (.int .i64 (a : Nat)) := hSw.1.cell 1; have d2 : w.cell? ⟨ib, 2, none⟩ = some (.int .i64 (b : Nat)) := hSw.1.cell 2; have d4 : w.cell? ⟨gb, 3 + b, none⟩ = some (.int .i64 (vb : Nat)) := (hSw.2.cell _).trans XB.out; go_simp; try with_reducible rfl
    try simp only [Act.put, List.setIfInBounds_toArray, List.set_cons_zero, List.set_cons_succ]
    refine heldL_take (i := 1) (v := ?_) rfl (by kernel_rfl) (by kernel_rfl) (by kernel_rfl) (by kernel_rfl) (fun _ _ _ h => h) (Or.inl ⟨by rfl, ?_⟩) (by assumption) ?_
    rotate_left
    · intro w hSw; (try dsimp only at hSw); have d1 : w.cell? ⟨ib, 1, none⟩ = some (.int .i64 (a : Nat)) := hSw.1.cell 1; have d2 : w.cell? ⟨ib, 2, none⟩ = some (.int .i64 (b : Nat)) := hSw.1.cell 2; have d4 : w.cell? ⟨gb, 3 + b, none⟩ = some (.int .i64 (vb : Nat)) := (hSw.2.cell _).trans XB.out; go_simp; try with_reducible rfl
    try simp only [Act.put, List.setIfInBounds_toArray, List.set_cons_zero, List.set_cons_succ]
    refine heldL_take (i := 2) (v := ?_) rfl (by kernel_rfl) (by kernel_rfl) (by kernel_rfl) (by kernel_rfl) (fun _ _ _ h => h) (Or.inl ⟨by rfl, ?_⟩) (by assumption) ?_
    rotate_left
    · intro w hSw; (try dsimp only at hSw); have d1 : w.cell? ⟨ib, 1, none⟩ = some (.int .i64 (a : Nat)) := hSw.1.cell 1; have d2 : w.cell? ⟨ib, 2, none⟩ = some (.int .i64 (b : Nat)) := hSw.1.cell 2; have d4 : w.cell? ⟨gb, 3 + b, none⟩ = some (.int .i64 (vb : Nat)) := (hSw.2.cell _).trans XB.out; go_simp; try with_reducible rfl
    try simp only [Act.put, List.setIfInBounds_toArray, List.set_cons_zero, List.set_cons_succ]
    refine heldL_take (i := 3) (v := ?_) rfl (by kernel_rfl) (by kernel_rfl) (by kernel_rfl) (by kernel_rfl) (fun _ _ _ h => h) (Or.inl ⟨by rfl, ?_⟩) (by assumption) ?_
    rotate_left
    · intro w hSw; (try dsimp only at hSw); have d1 : w.cell? ⟨ib, 1, none⟩ = some (.int .i64 (a : Nat)) := hSw.1.cell 1; have d2 : w.cell? ⟨ib, 2, none⟩ = some (.int .i64 (b : Nat)) := hSw.1.cell 2; have d4 : w.cell? ⟨gb, 3 + b, none⟩ = some (.int .i64 (vb : Nat)) := (hSw.2.cell _).trans XB.out; go_simp; try with_reducible rfl
    try simp only [Act.put, List.setIfInBounds_toArray, List.set_cons_zero, List.set_cons_succ]
    refine heldL_take (i := 4) (v := ?_) rfl (by kernel_rfl) (by kernel_rfl) (by kernel_rfl) (by kernel_rfl) (fun _ _ _ h => h) (Or.inl ⟨by rfl, ?_⟩) (by assumption) ?_
    rotate_left
    · intro w hSw; (try dsimp only at hSw); have d1 : w.cell? ⟨ib, 1, none⟩ = some (.int .i64 (a : Nat)) := hSw.1.cell 1; have d2 : w.cell? ⟨ib, 2, none⟩ = some (.int .i64 (b : Nat)) := hSw.1.cell 2; have d4 : w.cell? ⟨gb, 3 + b, none⟩ = some (.int .i64 (vb : Nat)) := (hSw.2.cell _).trans XB.out; go_simp; try with_reducible rfl
    try simp only [Act.put, List.setIfInBounds_toArray, List.set_cons_zero, List.set_cons_succ]
    refine heldL_take (i := 5) (v := ?_) rfl (by kernel_rfl) (by kernel_rfl) (by kernel_rfl) (by kernel_rfl) (fun _ _ _ h => h) (Or.inl ⟨by rfl, ?_⟩) (by assumption) ?_
    rotate_left
    · intro w hSw; (try dsimp only at hSw); have d1 : w.cell? ⟨ib, 1, none⟩ = some (.int .i64 (a : Nat)) := hSw.1.cell 1; have d2 : w.cell? ⟨ib, 2, none⟩ = some (.int .i64 (b : Nat)) := hSw.1.cell 2; have d4 : w.cell? ⟨gb, 3 + b, none⟩ = some (.int .i64 (vb : Nat)) := (hSw.2.cell _).trans XB.out; go_simp; try with_reducible rfl
    try simp only [Act.put, List.setIfInBounds_toArray, List.set_cons_zero, List.set_cons_succ]
    refine heldL_take (i := 6) (v := ?_) rfl (by kernel_rfl) (by kernel_rfl) (by kernel_rfl) (by kernel_rfl) (fun _ _ _ h => h) (Or.inl ⟨by rfl, ?_⟩) (by assumption) ?_
    rotate_left
    · intro w hSw; (try dsimp only at hSw); have d1 : w.cell? ⟨ib, 1, none⟩ = some (.int .i64 (a : Nat)) := hSw.1.cell 1; have d2 : w.cell? ⟨ib, 2, none⟩ = some (.int .i64 (b : Nat)) := hSw.1.cell 2; have d4 : w.cell? ⟨gb, 3 + b, none⟩ = some (.int .i64 (vb : Nat)) := (hSw.2.cell _).trans XB.out; go_simp; try with_reducible rfl
    try simp only [Act.put, List.setIfInBounds_toArray, List.set_cons_zero, List.set_cons_succ]
    refine heldL_take (i := 7) (v := ?_) rfl (by kernel_rfl) (by kernel_rfl) (by kernel_rfl) (by kernel_rfl) (fun _ _ _ h => h) (Or.inl ⟨by rfl, ?_⟩) (by assumption) ?_
    rotate_left
    · intro w hSw; (try dsimp only at hSw); have d1 : w.cell? ⟨ib, 1, none⟩ = some (.int .i64 (a : Nat)) := hSw.1.cell 1; have d2 : w.cell? ⟨ib, 2, none⟩ = some (.int .i64 (b : Nat)) := hSw.1.cell 2; have d4 : w.cell? ⟨gb, 3 + b, none⟩ = some (.int .i64 (vb : Nat)) := (hSw.2.cell _).trans XB.out; go_simp; try with_reducible rfl
    try simp only [Act.put, List.setIfInBounds_toArray, List.set_cons_zero, List.set_cons_succ]
    refine heldL_take (i := 8) (v := ?_) rfl (by kernel_rfl) (by kernel_rfl) (by kernel_rfl) (by kernel_rfl) (fun _ _ _ h => h) (Or.inl ⟨by rfl, ?_⟩) (by assumption) ?_
    rotate_left
    · intro w hSw; (try dsimp only at hSw); have d1 : w.cell? ⟨ib, 1, none⟩ = some (.int .i64 (a : Nat)) := hSw.1.cell 1; have d2 : w.cell? ⟨ib, 2, none⟩ = some (.int .i64 (b : Nat)) := hSw.1.cell 2; have d4 : w.cell? ⟨gb, 3 + b, none⟩ = some (.int .i64 (vb : Nat)) := (hSw.2.cell _).trans XB.out; go_simp; try with_reducible rfl
    try simp only [Act.put, List.setIfInBounds_toArray, List.set_cons_zero, List.set_cons_succ]
    refine heldL_take (i := 9) (v := ?_) rfl (by kernel_rfl) (by kernel_rfl) (by kernel_rfl) (by kernel_rfl) (fun _ _ _ h => h) (Or.inl ⟨by rfl, ?_⟩) (by assumption) ?_
    rotate_left
    · intro w hSw; (try dsimp only at hSw); have d1 : w.cell? ⟨ib, 1, none⟩ = some (.int .i64 (a : Nat)) := hSw.1.cell 1; have d2 : w.cell? ⟨ib, 2, none⟩ = some (.int .i64 (b : Nat)) := hSw.1.cell 2; have d4 : w.cell? ⟨gb, 3 + b, none⟩ = some (.int .i64 (vb : Nat)) := (hSw.2.cell _).trans XB.out; go_simp; try with_reducible rfl
    try simp only [Act.put, List.setIfInBounds_toArray, List.set_cons_zero, List.set_cons_succ]
    refine heldL_take (i := 10) (v := ?_) rfl (by kernel_rfl) (by kernel_rfl) (by kernel_rfl) (by kernel_rfl) (fun _ _ _ h => h) (Or.inl ⟨by rfl, ?_⟩) (by assumption) ?_
    rotate_left
    · intro w hSw; (try dsimp only at hSw); have d1 : w.cell? ⟨ib, 1, none⟩ = some (.int .i64 (a : Nat)) := hSw.1.cell 1; have d2 : w.cell? ⟨ib, 2, none⟩ = some (.int .i64 (b : Nat)) := hSw.1.cell 2; have d4 : w.cell? ⟨gb, 3 + b, none⟩ = some (.int .i64 (vb : Nat)) := (hSw.2.cell _).trans XB.out; go_simp; try with_reducible rfl
    try simp only [Act.put, List.setIfInBounds_toArray, List.set_cons_zero, List.set_cons_succ]
    refine heldL_ready (rs := [11]) (by kernel_rfl) (by simp) ?_
    refine AllL.cons rfl (fun K hK => ?_) AllL.nil
    go_simp
    go_at_call 23
    refine (KS.out _ X1.out).mono ?_
    rintro e w1 ⟨rfl, hr, hb9⟩
    rw [HKK.out]
    have HR := Lib.hid (MdR.pre X1.out hr)
    have hb1 : Box w1 ib #[.int .i64 op, .int .i64 (a : Nat), .int .i64 (b : Nat), .int .i64 (c : Nat)] 58 := by obtain ⟨_, _, _, _, _, _, c5⟩ := hr; exact hHeld.1.chg c5 (fun e => e (N.out ib (by have := HIB.out; omega)))
    have hb2 := hb9 g HG.out
    rw [HGB.out] at hb2
    have hHeld1 := And.intro hb1 hb2
    refine hK.out _ _ (fun _ => hHeld1) (fun _ => ?_)
    clear hK K hb1 hb2 hb9 hr
    try simp only [Act.put, List.setIfInBounds_toArray, List.set_cons_zero, List.set_cons_succ]
    refine heldL_take (i := 12) (v := ?_) rfl (by kernel_rfl) (by kernel_rfl) (by kernel_rfl) (by kernel_rfl) (fun _ _ _ h => h) (Or.inl ⟨by rfl, ?_⟩) (by assumption) ?_
    rotate_left
    · intro w hSw; (try dsimp only at hSw); have d1 : w.cell? ⟨ib, 1, none⟩ = some (.int .i64 (a : Nat)) := hSw.1.cell 1; have d2 : w.cell? ⟨ib, 2, none⟩ = some (.int .i64 (b : Nat)) := hSw.1.cell 2; have d4 : w.cell? ⟨gb, 3 + b, none⟩ = some (.int .i64 (vb : Nat)) := (hSw.2.cell _).trans XB.out; go_simp; try with_reducible rfl
    try simp only [Act.put, List.setIfInBounds_toArray, List.set_cons_zero, List.set_cons_succ]
    have E1 := HR.out.eff HC.out
    have bx1 : Box w1 cb (cc.cells 0 false) 50 := by obtain ⟨_, _, _, _, _, _, b5, _⟩ := E1; exact b5
    have o1 : w1.cell? ⟨cb, 4, none⟩ = some (.int .i64 0) := bx1.cell 4
    have o2 := bx1.soft 4
    refine heldL_store_int 23 22 (by kernel_rfl) (by kernel_rfl) (by kernel_rfl) (by rfl) (by rfl) o1 o2 ?_
    have EV := Lib.hid (E1.val HC.out (k : Int))
    have bx2 : Box (w1.setCell ⟨cb, 4, none⟩ (.int .i64 (k : Nat))) cb (cc.cells (k : Int) false) 50 := bx1.put 4 _
    have q1 : (w1.setCell ⟨cb, 4, none⟩ (.int .i64 (k : Nat))).cell? ⟨cb, 4, none⟩ = some (.int .i64 (k : Nat)) := bx2.cell 4
    obtain ⟨w2, hw2⟩ : ∃ w2, w2 = w1.setCell ⟨cb, 4, none⟩ (.int .i64 (k : Nat)) := ⟨_, rfl⟩
    rw [← hw2] at EV q1 ⊢
    clear hw2 bx1 bx2 o1 o2 E1
    go_wp2_with fail
    go_ret
    exact effD_some HE.out rfl EV.out
  · simp only [if_neg hk] at KS
    have HE : Hid (effM m g 8 a b c = (m, -1, none)) := Lib.hid (by simp only [effM]; rw [if_neg hk])
    have o1 : w.cell? ⟨cb, 4, none⟩ = some (.int .i64 0) := hc.box.cell 4
    have o2 := hc.box.soft 4
    clear h n hc hg hB hl hst hgb m0 hvb hk
    go_enter Tryz.func62, Tryz.ntmps62
    go_upto_region 1 with fail
    have b0 := Box.fresh w #[.int .i64 op, .int .i64 (a : Nat), .int .i64 (b : Nat), .int .i64 (c : Nat)] 58
    have x0 := Ex.made w (.cells #[.int .i64 op, .int .i64 (a : Nat), .int .i64 (b : Nat), .int .i64 (c : Nat)] 58)
    obtain ⟨ib, hib⟩ : ∃ ib, w.heap.size = ib := ⟨_, rfl⟩
    obtain ⟨W0, hW0⟩ : ∃ W, W = w.alloc (.cells #[.int .i64 op, .int .i64 (a : Nat), .int .i64 (b : Nat), .int .i64 (c : Nat)] 58) := ⟨_, rfl⟩
    rw [hib] at b0 ⊢
    rw [← hW0] at b0 x0 ⊢
    have HIB := Lib.hid hib
    have X0 := Lib.hid x0
    have B0 := Lib.hid b0
    have X1 : Hid (Ex w W0.drew) := Lib.hid (X0.out.trans (ex_drw W0))
    have XB : Hid ((gcells (m.at g))[3 + b]? = some (.int .i64 (vb : Nat))) := Lib.hid ((HB.out.cell _).symm.trans xb)
    clear b0 x0 hW0 hib xb fb
    refine wp_region_last (S := fun w' => Box w' ib #[.int .i64 op, .int .i64 (a : Nat), .int .i64 (b : Nat), .int .i64 (c : Nat)] 58 ∧ Box w' gb (gcells (m.at g)) 81) 13 14 (by kernel_rfl) (by kernel_rfl) (by kernel_rfl) ⟨B0.out.ex (ex_drw W0), HB.out.ex X1.out⟩ (fun hHeld => ?_)
    generalize W0.drew = Y0 at *
    refine heldL_take (i := 0) (v := ?_) rfl (by kernel_rfl) (by kernel_rfl) (by kernel_rfl) (by kernel_rfl) (fun _ _ _ h => h) (Or.inl ⟨by rfl, ?_⟩) (by assumption) ?_
    rotate_left
    · intro w hSw; (try dsimp only at hSw); have d1 : w.cell? ⟨ib, 1, none⟩ = some (.int .i64 (a : Nat)) := hSw.1.cell 1; have d2 : w.cell? ⟨ib, 2, none⟩ = some (.int .i64 (b : Nat)) := hSw.1.cell 2; have d4 : w.cell? ⟨gb, 3 + b, none⟩ = some (.int .i64 (vb : Nat)) := (hSw.2.cell _).trans XB.out; go_simp; try with_reducible rfl
    try simp only [Act.put, List.setIfInBounds_toArray, List.set_cons_zero, List.set_cons_succ]
    refine heldL_take (i := 1) (v := ?_) rfl (by kernel_rfl) (by kernel_rfl) (by kernel_rfl) (by kernel_rfl) (fun _ _ _ h => h) (Or.inl ⟨by rfl, ?_⟩) (by assumption) ?_
    rotate_left
    · intro w hSw; (try dsimp only at hSw); have d1 : w.cell? ⟨ib, 1, none⟩ = some (.int .i64 (a : Nat)) := hSw.1.cell 1; have d2 : w.cell? ⟨ib, 2, none⟩ = some (.int .i64 (b : Nat)) := hSw.1.cell 2; have d4 : w.cell? ⟨gb, 3 + b, none⟩ = some (.int .i64 (vb : Nat)) := (hSw.2.cell _).trans XB.out; go_simp; try with_reducible rfl
    try simp only [Act.put, List.setIfInBounds_toArray, List.set_cons_zero, List.set_cons_succ]
    refine heldL_take (i := 2) (v := ?_) rfl (by kernel_rfl) (by kernel_rfl) (by kernel_rfl) (by kernel_rfl) (fun _ _ _ h => h) (Or.inl ⟨by rfl, ?_⟩) (by assumption) ?_
    rotate_left
    · intro w hSw; (try dsimp only at hSw); have d1 : w.cell? ⟨ib, 1, none⟩ = some (.int .i64 (a : Nat)) := hSw.1.cell 1; have d2 : w.cell? ⟨ib, 2, none⟩ = some (.int .i64 (b : Nat)) := hSw.1.cell 2; have d4 : w.cell? ⟨gb, 3 + b, none⟩ = some (.int .i64 (vb : Nat)) := (hSw.2.cell _).trans XB.out; go_simp; try with_reducible rfl
    try simp only [Act.put, List.setIfInBounds_toArray, List.set_cons_zero, List.set_cons_succ]
    refine heldL_take (i := 3) (v := ?_) rfl (by kernel_rfl) (by kernel_rfl) (by kernel_rfl) (by kernel_rfl) (fun _ _ _ h => h) (Or.inl ⟨by rfl, ?_⟩) (by assumption) ?_
    rotate_left
    · intro w hSw; (try dsimp only at hSw); have d1 : w.cell? ⟨ib, 1, none⟩ = some (.int .i64 (a : Nat)) := hSw.1.cell 1; have d2 : w.cell? ⟨ib, 2, none⟩ = some (.int .i64 (b : Nat)) := hSw.1.cell 2; have d4 : w.cell? ⟨gb, 3 + b, none⟩ = some (.int .i64 (vb : Nat)) := (hSw.2.cell _).trans XB.out; go_simp; try with_reducible rfl
    try simp only [Act.put, List.setIfInBounds_toArray, List.set_cons_zero, List.set_cons_succ]
    refine heldL_take (i := 4) (v := ?_) rfl (by kernel_rfl) (by kernel_rfl) (by kernel_rfl) (by kernel_rfl) (fun _ _ _ h => h) (Or.inl ⟨by rfl, ?_⟩) (by assumption) ?_
    rotate_left
    · intro w hSw; (try dsimp only at hSw); have d1 : w.cell? ⟨ib, 1, none⟩ = some (.int .i64 (a : Nat)) := hSw.1.cell 1; have d2 : w.cell? ⟨ib, 2, none⟩ = some (.int .i64 (b : Nat)) := hSw.1.cell 2; have d4 : w.cell? ⟨gb, 3 + b, none⟩ = some (.int .i64 (vb : Nat)) := (hSw.2.cell _).trans XB.out; go_simp; try with_reducible rfl
    try simp only [Act.put, List.setIfInBounds_toArray, List.set_cons_zero, List.set_cons_succ]
    refine heldL_take (i := 5) (v := ?_) rfl (by kernel_rfl) (by kernel_rfl) (by kernel_rfl) (by kernel_rfl) (fun _ _ _ h => h) (Or.inl ⟨by rfl, ?_⟩) (by assumption) ?_
    rotate_left
    · intro w hSw; (try dsimp only at hSw); have d1 : w.cell? ⟨ib, 1, none⟩ = some (.int .i64 (a : Nat)) := hSw.1.cell 1; have d2 : w.cell? ⟨ib, 2, none⟩ = some (.int .i64 (b : Nat)) := hSw.1.cell 2; have d4 : w.cell? ⟨gb, 3 + b, none⟩ = some (.int .i64 (vb : Nat)) := (hSw.2.cell _).trans XB.out; go_simp; try with_reducible rfl
    try simp only [Act.put, List.setIfInBounds_toArray, List.set_cons_zero, List.set_cons_succ]
    refine heldL_take (i := 6) (v := ?_) rfl (by kernel_rfl) (by kernel_rfl) (by kernel_rfl) (by kernel_rfl) (fun _ _ _ h => h) (Or.inl ⟨by rfl, ?_⟩) (by assumption) ?_
    rotate_left
    · intro w hSw; (try dsimp only at hSw); have d1 : w.cell? ⟨ib, 1, none⟩ = some (.int .i64 (a : Nat)) := hSw.1.cell 1; have d2 : w.cell? ⟨ib, 2, none⟩ = some (.int .i64 (b : Nat)) := hSw.1.cell 2; have d4 : w.cell? ⟨gb, 3 + b, none⟩ = some (.int .i64 (vb : Nat)) := (hSw.2.cell _).trans XB.out; go_simp; try with_reducible rfl
    try simp only [Act.put, List.setIfInBounds_toArray, List.set_cons_zero, List.set_cons_succ]
    refine heldL_take (i := 7) (v := ?_) rfl (by kernel_rfl) (by kernel_rfl) (by kernel_rfl) (by kernel_rfl) (fun _ _ _ h => h) (Or.inl ⟨by rfl, ?_⟩) (by assumption) ?_
    rotate_left
    · intro w hSw; (try dsimp only at hSw); have d1 : w.cell? ⟨ib, 1, none⟩ = some (.int .i64 (a : Nat)) := hSw.1.cell 1; have d2 : w.cell? ⟨ib, 2, none⟩ = some (.int .i64 (b : Nat)) := hSw.1.cell 2; have d4 : w.cell? ⟨gb, 3 + b, none⟩ = some (.int .i64 (vb : Nat)) := (hSw.2.cell _).trans XB.out; go_simp; try with_reducible rfl
    try simp only [Act.put, List.setIfInBounds_toArray, List.set_cons_zero, List.set_cons_succ]
    refine heldL_take (i := 8) (v := ?_) rfl (by kernel_rfl) (by kernel_rfl) (by kernel_rfl) (by kernel_rfl) (fun _ _ _ h => h) (Or.inl ⟨by rfl, ?_⟩) (by assumption) ?_
    rotate_left
    · intro w hSw; (try dsimp only at hSw); have d1 : w.cell? ⟨ib, 1, none⟩ = some (.int .i64 (a : Nat)) := hSw.1.cell 1; have d2 : w.cell? ⟨ib, 2, none⟩ = some (.int .i64 (b : Nat)) := hSw.1.cell 2; have d4 : w.cell? ⟨gb, 3 + b, none⟩ = some (.int .i64 (vb : Nat)) := (hSw.2.cell _).trans XB.out; go_simp; try with_reducible rfl
    try simp only [Act.put, List.setIfInBounds_toArray, List.set_cons_zero, List.set_cons_succ]
    refine heldL_take (i := 9) (v := ?_) rfl (by kernel_rfl) (by kernel_rfl) (by kernel_rfl) (by kernel_rfl) (fun _ _ _ h => h) (Or.inl ⟨by rfl, ?_⟩) (by assumption) ?_
    rotate_left
    · intro w hSw; (try dsimp only at hSw); have d1 : w.cell? ⟨ib, 1, none⟩ = some (.int .i64 (a : Nat)) := hSw.1.cell 1; have d2 : w.cell? ⟨ib, 2, none⟩ = some (.int .i64 (b : Nat)) := hSw.1.cell 2; have d4 : w.cell? ⟨gb, 3 + b, none⟩ = some (.int .i64 (vb : Nat)) := (hSw.2.cell _).trans XB.out; go_simp; try with_reducible rfl
    try simp only [Act.put, List.setIfInBounds_toArray, List.set_cons_zero, List.set_cons_succ]
    refine heldL_take (i := 10) (v := ?_) rfl (by kernel_rfl) (by kernel_rfl) (by kernel_rfl) (by kernel_rfl) (fun _ _ _ h => h) (Or.inl ⟨by rfl, ?_⟩) (by assumption) ?_
    rotate_left
    · intro w hSw; (try dsimp only at hSw); have d1 : w.cell? ⟨ib, 1, none⟩ = some (.int .i64 (a : Nat)) := hSw.1.cell 1; have d2 : w.cell? ⟨ib, 2, none⟩ = some (.int .i64 (b : Nat)) := hSw.1.cell 2; have d4 : w.cell? ⟨gb, 3 + b, none⟩ = some (.int .i64 (vb : Nat)) := (hSw.2.cell _).trans XB.out; go_simp; try with_reducible rfl
    try simp only [Act.put, List.setIfInBounds_toArray, List.set_cons_zero, List.set_cons_succ]
    refine heldL_ready (rs := [11]) (by kernel_rfl) (by simp) ?_
    refine AllL.cons rfl (fun K hK => ?_) AllL.nil
    go_simp
    go_at_call 23
    refine (KS.out _ X1.out).mono ?_
    rintro e w1 ⟨rfl, rfl⟩
    refine hK.out _ _ (fun _ => hHeld) (fun _ => ?_)
    clear hK K
    try simp only [Act.put, List.setIfInBounds_toArray, List.set_cons_zero, List.set_cons_succ]
    refine heldL_take (i := 12) (v := ?_) rfl (by kernel_rfl) (by kernel_rfl) (by kernel_rfl) (by kernel_rfl) (fun _ _ _ h => h) (Or.inl ⟨by rfl, ?_⟩) (by assumption) ?_
    rotate_left
    · intro w hSw; (try dsimp only at hSw); have d1 : w.cell? ⟨ib, 1, none⟩ = some (.int .i64 (a : Nat)) := hSw.1.cell 1; have d2 : w.cell? ⟨ib, 2, none⟩ = some (.int .i64 (b : Nat)) := hSw.1.cell 2; have d4 : w.cell? ⟨gb, 3 + b, none⟩ = some (.int .i64 (vb : Nat)) := (hSw.2.cell _).trans XB.out; go_simp; try with_reducible rfl
    try simp only [Act.put, List.setIfInBounds_toArray, List.set_cons_zero, List.set_cons_succ]
    have p1 := (X1.out.cell (p := ⟨cb, 4, none⟩) clt).trans o1
    have p2 := (X1.out.frozen (p := ⟨cb, 4, none⟩) clt).trans o2
    refine heldL_store_int 23 22 (by kernel_rfl) (by kernel_rfl) (by kernel_rfl) (by rfl) (by rfl) p1 p2 ?_
    have EV := Lib.hid ((eff_ex H.out N.out HC.out X1.out).val HC.out (-1))
    have bx2 : Box (Y0.setCell ⟨cb, 4, none⟩ (.int .i64 (-1))) cb (cc.cells (-1) false) 50 := (HC.out.box.ex X1.out).put 4 _
    have q1 : (Y0.setCell ⟨cb, 4, none⟩ (.int .i64 (-1))).cell? ⟨cb, 4, none⟩ = some (.int .i64 (-1)) := bx2.cell 4
    obtain ⟨w2, hw2⟩ : ∃ w2, w2 = Y0.setCell ⟨cb, 4, none⟩ (.int .i64 (-1)) := ⟨_, rfl⟩
    rw [← hw2] at EV q1 ⊢
    clear hw2 bx2 p1 p2 o1 o2
    go_wp2_with fail
    refine ⟨rfl, ?_⟩
    exact effD_none HE.out rfl EV.out

end Go.Proofs.YtmlobpapjfkbmaaGreat

/- A model's instructions: alloc. -/
namespace Go.Proofs.YtmlobpapjfkbmaaGreat
open Go.RowKit
set_option linter.unusedVariables false
set_option maxRecDepth 20000
set_option linter.unusedSimpArgs false

theorem info_sl : (Tryz.prog.info? 37).map (fun i => (i.zero, i.size, i.bytes)) = some (some (.slice none 0 0), 1, 24) := by kernel_rfl
/-- append at a step of a region that draws: elements of one cell. -/
theorem step_append_one {ops : Array Oper} {o : Oper} {a : Act} {K : Act → World → Prop} {Q : Exit → Act → World → Prop} {E : Prop} {Y : World} (hgd : o.guard = none) (s x : Operand) (t e : TypeId) (i : TypeInfo) (z : Value) (bytes : Nat)
    (ho : o.op = .call { callee := .builtin .append, args := #[s, x], argTypes := #[t, t] }) (ht : Tryz.prog.underlying t = some (.slice e)) (hi : Tryz.prog.info? e = some i) (hz : i.zero = some z) (hsize : i.size = 1) (hby : i.bytes = bytes) (hzs : z.cells.size = 1)
    {B : Nat} {v : Value} {n : Nat} {xs : List Value} (hs : a.eval s = v) (h : Y.ownsRow B e 1 v n xs) (hB : B ≤ Y.heap.size) (ad : Addr) (m c : Nat) (hx : a.eval x = .slice (some ad) m c) (news : List Value) (hl : news.length = m)
    (hc : ∀ j u, news[j]? = some u → Y.cell? (ad.add j) = some u) (h1 : ∀ u ∈ news, u.oneCell' = true) (h63 : n + m ≤ maxLen) (hbytes : (n + m) * bytes ≤ 140737488355328)
    (k : ∀ v' Y', Y'.ownsRow B e 1 v' (n + m) (xs ++ news) → Y.grownBy Y' v.ownBlock → (v'.ownBlock = v.ownBlock ∨ v'.ownBlock = some Y.heap.size) → K (a.put o.dst v') Y') :
    if Region.wanted o (yielded ops a.tmps) = true then Oper.wp Tryz.prog o a Y K Q else E := by
  have hw : Region.wanted o (yielded ops a.tmps) = true := by simp [Region.wanted, hgd]
  rw [if_pos hw]
  obtain ⟨v', Y', hr, h2, h3, h4, h5⟩ := run_append_own_at (P := Tryz.prog) Y B t o.type e i z 1 bytes ht hi hz hsize hby hzs (by omega) v n xs h ad m c news (by rw [hl, Nat.mul_one]) hc h1 h63 hbytes hB
  unfold Oper.wp execOp
  simp only [ho, resolve, invoke, builtin, Sem.run_bind, Sem.run_pure, Result.andThen_ok, List.map_toArray, List.map_cons, List.map_nil, hs, hx, hr]
  exact k v' Y' h2 h3 h5
theorem heldL_store_rows {ops : Array Oper} {a : Act} {Q : Exit → Act → World → Prop} {S : World → Prop} {Y : World} {b j n fuel : Nat} {sa : Option Addr} {sn sc : Nat} {listed : Array Bool} {u0 : Value} (p q : Tmp)
    (hr : Region.ready .any ops listed = [n]) (hr2 : Region.ready .any ops (listed.setIfInBounds n true) = [])
    (ho : (ops[n]?).map (fun o => (o.op, o.guard, o.dst)) = some (.store 40 (.tmp p) (.tmp q), none, none)) (hp : a.eval (.tmp p) = .pointer (some ⟨b, j, none⟩)) (hv : a.eval (.tmp q) = .slice sa sn sc)
    (c : Y.cell? ⟨b, j, none⟩ = some u0) (s : Y.frozen? ⟨b, j, none⟩ = false)
    (k : Q .normal a (Y.setCell ⟨b, j, none⟩ (.slice sa sn sc))) : HeldL Tryz.prog .any ops Q S n (fuel + 1) listed a Y := by
  cases hi : ops[n]? with
  | none => rw [hi] at ho; cases ho
  | some o =>
    rw [hi] at ho
    simp only [Option.map_some, Option.some.injEq, Prod.mk.injEq] at ho
    obtain ⟨ho, hgd, hd⟩ := ho
    refine heldL_last hr hr2 (wpOp_step hi fun K' hK => ?_)
    have hw : Region.wanted o (yielded ops a.tmps) = true := by simp [Region.wanted, hgd]
    rw [if_pos hw]
    unfold Oper.wp execOp
    simp only [ho, hp, hv]
    go_simp
    exact hK _ _ k

theorem make_ints (w : World) (n : Nat) (hn : n ≤ 100000) : (Instr.makeSlice 37 (.int .i64 (n : Int)) (.int .i64 (n : Int))).run Tryz.prog w = .ok (.slice (some ⟨w.heap.size, 0, none⟩) n n) (w.alloc (.cells (S12.ints (List.replicate n 0)).toArray 3)) := by
  obtain ⟨i0, hi, hz0, hz1, hz2⟩ := info_parts info_int
  rw [run_makeSlice (P := Tryz.prog) w 37 3 i0 (.int .i64 0) Tryz.underlying37 hi hz0 .i64 .i64 n n (by omega) (by omega) (by rw [hz1]; omega) (by rw [hz2]; omega) (by omega)]
  rw [hz1, Int.toNat_natCast, Nat.mul_one]
  congr 3
  apply Array.ext_getElem?
  intro k
  by_cases h : k < n
  · simp [madeCells, S12.ints, h, Value.cells, Nat.mod_one]
  · simp [madeCells, S12.ints, h]
theorem row_made (w : World) (n : Nat) (hn : n ≤ 100000) : (w.alloc (.cells (S12.ints (List.replicate n 0)).toArray 3)).ownsRow 0 3 1 (.slice (some ⟨w.heap.size, 0, none⟩) n n) (List.replicate n 0).length (S12.ints (List.replicate n 0)) := by
  have e : (List.replicate n 0).length = n := by simp
  rw [e]
  exact ⟨by simp [S12.ints], .inr ⟨w.heap.size, n, (S12.ints (List.replicate n 0)).toArray, rfl, Nat.zero_le _, heap_alloc_new w _, Nat.le_refl _, by unfold maxLen; omega, by simp [S12.ints], by simp [S12.ints]⟩⟩

/-- One after the other, with the parts' places known. -/
theorem EffT.comp {w w1 w2 : World} {A A1 : Adr} {t t1 : Nat → Tg} {mb : Nat} {F : Fns} {m' : MS} {cb : Nat} {cc : CmI} {v : Int} (x : ∀ i, i < w.heap.size → t1 i = t i) (c1 : Chg (fun i => (t i).1 ≠ 0 ∨ i = cb) w w1) (p : A1.pb = A.pb) (h : EffT w1 A1 t1 mb F cb cc m' v w2) : EffT w A t mb F cb cc m' v w2 := by
  obtain ⟨A', t', k1, k2, k3, k4, k5, k6⟩ := h
  exact ⟨A', t', k1, k2, fun i hi => (k3 i (Nat.lt_of_lt_of_le hi c1.size)).trans (x i hi), k4.trans p, k5, c1.trans k6 (fun i hi hf => by rw [x i hi] at hf; exact hf)⟩

theorem onew_end {w Y0 Y3 : World} {A : Adr} {t : Nat → Tg} {mb : Nat} {F : Fns} {m : MS} (h : Md w A t mb F m) (n : New w t) (x0 : Ex w Y0) {kb sl : Nat} (hkb : kb ≤ 100000) (hsl : m.slots.length = sl) {v3 : Value}
    (hown : Y3.ownsRow 0 37 1 v3 (sl + 1) ((List.range sl).map A.ov ++ [.slice (some ⟨Y0.heap.size, 0, none⟩) kb kb]))
    (hg : ((Y0.alloc (.cells (S12.ints (List.replicate kb 0)).toArray 3)).alloc (.cells #[.slice (some ⟨Y0.heap.size, 0, none⟩) kb kb] 37)).grownBy Y3 A.lv.ownBlock)
    (hor : v3.ownBlock = A.lv.ownBlock ∨ v3.ownBlock = some ((Y0.alloc (.cells (S12.ints (List.replicate kb 0)).toArray 3)).alloc (.cells #[.slice (some ⟨Y0.heap.size, 0, none⟩) kb kb] 37)).heap.size) :
    (∃ t', Md (Y3.setCell ⟨mb, 5, none⟩ v3) { A with lv := v3, ov := fun i => if i = m.slots.length then .slice (some ⟨Y0.heap.size, 0, none⟩) kb kb else A.ov i } t' mb F { m with slots := m.slots ++ [List.replicate kb 0] } ∧ New (Y3.setCell ⟨mb, 5, none⟩ v3) t' ∧ (∀ i, i < w.heap.size → t' i = t i) ∧ Chg (fun i => (t i).1 ≠ 0) w (Y3.setCell ⟨mb, 5, none⟩ v3)) ∧ Box Y3 mb (mcells A m.clock) 70 := by
  subst hsl
  have hsz : ((Y0.alloc (.cells (S12.ints (List.replicate kb 0)).toArray 3)).alloc (.cells #[.slice (some ⟨Y0.heap.size, 0, none⟩) kb kb] 37)).heap.size = Y0.heap.size + 2 := by simp
  have xw := x0.size
  have x1 : Ex Y0 ((Y0.alloc (.cells (S12.ints (List.replicate kb 0)).toArray 3)).alloc (.cells #[.slice (some ⟨Y0.heap.size, 0, none⟩) kb kb] 37)) := (Ex.made _ _).trans (Ex.made _ _)
  rw [hsz] at hor
  have lvlt : ∀ b, A.lv.ownBlock = some b → b < w.heap.size := fun b hb => row_lt h.slr.row hb
  have lvt : ∀ b, A.lv.ownBlock = some b → t b = (6, 0) := fun b hb => h.slr.tag b hb
  have mlt : mb < w.heap.size := h.box.box.lt
  have mne : A.lv.ownBlock ≠ some mb := fun e => by have h1 := lvt _ e; rw [h.box.tag] at h1; simp at h1
  have hob : ∀ b, v3.ownBlock = some b → b ≠ mb ∧ b ≠ Y0.heap.size ∧ (A.lv.ownBlock = some b ∨ w.heap.size ≤ b) := fun b hb => by
    rcases hor with e | e
    · rw [hb] at e
      have := lvlt b e.symm
      exact ⟨fun e2 => mne (e2 ▸ e.symm), by omega, .inl e.symm⟩
    · rw [hb] at e; cases e; exact ⟨by omega, by omega, .inr (by omega)⟩
  have bm3 : Box Y3 mb (mcells A m.clock) 70 := (hg.block mb (by rw [hsz]; omega) (fun e => mne e.symm)).trans ((h.box.box.ex x0).ex x1)
  have k1 := ((x0.trans x1).chg (fun i => i = mb ∨ A.lv.ownBlock = some i)).trans (Chg.grown (F := fun i => i = mb ∨ A.lv.ownBlock = some i) hg (fun i hi => .inr hi)) (fun _ _ h => h)
  have k2 := k1.trans (Chg.cell (F := fun i => i = mb ∨ A.lv.ownBlock = some i) Y3 ⟨mb, 5, none⟩ v3 (.inl rfl)) (fun _ _ h => h)
  have ro := row_chg (F := fun _ => False) (row_made Y0 kb hkb) ((Ex.made (Y0.alloc (.cells (S12.ints (List.replicate kb 0)).toArray 3)) (.cells #[.slice (some ⟨Y0.heap.size, 0, none⟩) kb kb] 37)).chg _) (fun _ _ h => h)
  have ro2 := row_chg (F := fun i => A.lv.ownBlock = some i) ro (Chg.grown (F := fun i => A.lv.ownBlock = some i) hg (fun i hi => hi)) (fun b hb e => by cases hb; have := lvlt _ e; simp at this; omega)
  have ro3 := row_chg (F := fun i => i = mb) ro2 (Chg.cell (F := fun i => i = mb) Y3 ⟨mb, 5, none⟩ v3 rfl) (fun b hb e => by cases hb; simp at e; omega)
  exact ⟨mdr_onew h n k2 (bm3.put 5 v3) (row_chg hown (Chg.cell (F := fun i => i = mb) Y3 ⟨mb, 5, none⟩ v3 rfl) (fun b hb e => (hob b hb).1 e)) (fun b hb => (hob b hb).2.2) ro3 (fun b hb => by cases hb; exact ⟨xw, fun e => (hob _ e).2.1 rfl⟩), bm3⟩

set_option maxHeartbeats 12800000 in
theorem alloc_m {w : World} {A : Adr} {t : Nat → Tg} {mb : Nat} {F : Fns} {m : MS} (h : Md w A t mb F m) (n : New w t) {cb : Nat} {cc : CmI} (hc : Cb w A t cb cc 0) {g : Nat} (hg : g < m.gs.length) (hl : (m.at g).stack.length = 16) (hs0 : 0 < m.slots.length) (hn : m.slots.length ≤ 100000) (op : Int) (a b c : Nat) (ha : a < 16) (hb : b < 256) :
    Calls Tryz.prog 55 #[.pointer (some ⟨mb, 0, none⟩), .int .i64 (g : Nat), .pointer (some ⟨A.gb g, 0, none⟩), .agg #[.int .i64 op, .int .i64 (a : Nat), .int .i64 (b : Nat), .int .i64 (c : Nat)], .pointer (some ⟨cb, 4, none⟩)] w
      (EffD w A t mb F cb cc (effM m g 1 a b c)) := by
  have H := Lib.hid h
  have N := Lib.hid n
  have HC := Lib.hid hc
  have HG := Lib.hid hg
  have HL := Lib.hid hl
  have clt := hc.box.lt
  have mlt := h.box.box.lt
  have c5 : w.cell? ⟨mb, 5, none⟩ = some A.lv := h.box.box.cell 5
  have f5 := h.box.box.soft 5
  have HLV := Lib.hid h.slr.row
  obtain ⟨sl, hsl⟩ : ∃ k, m.slots.length = k := ⟨_, rfl⟩
  rw [hsl] at hs0 hn HLV
  have HSL := Lib.hid hsl
  obtain ⟨kb, hkb⟩ : ∃ k, b + 1 = k := ⟨_, rfl⟩
  have e1 : IntKind.i64.wrap ((b : Int) + 1) = (kb : Int) := by rw [IntKind.wrap_i64]; omega
  have HKB := Lib.hid hkb
  have hkb9 : kb ≤ 256 := by omega
  have HMK := Lib.hid (fun W : World => make_ints W kb (by omega))
  have HE : Hid (effM m g 1 a b c = (({ m with slots := m.slots ++ [List.replicate kb 0] }).put g ((m.at g).top a sl), (sl : Int), some 1)) := Lib.hid (by simp only [effM]; rw [hkb, hsl])
  obtain ⟨lv, hlv⟩ : ∃ v, A.lv = v := ⟨_, rfl⟩
  rw [hlv] at c5 HLV
  have HLVE := Lib.hid hlv
  obtain ⟨gb, hgb⟩ : ∃ gb, A.gb g = gb := ⟨_, rfl⟩
  rw [hgb]
  have HGB := Lib.hid hgb
  obtain ⟨i0, hi, hz0, hz1, hz2⟩ := info_parts info_sl
  clear h n hc hg hl hsl hkb hlv hgb
  go_enter Tryz.func55, Tryz.ntmps55
  go_upto_region 1 with fail
  have b0 := Box.fresh w #[.int .i64 op, .int .i64 (a : Nat), .int .i64 (b : Nat), .int .i64 (c : Nat)] 58
  have x0 := Ex.made w (.cells #[.int .i64 op, .int .i64 (a : Nat), .int .i64 (b : Nat), .int .i64 (c : Nat)] 58)
  obtain ⟨ib, hib⟩ : ∃ ib, w.heap.size = ib := ⟨_, rfl⟩
  obtain ⟨W0, hW0⟩ : ∃ W, W = w.alloc (.cells #[.int .i64 op, .int .i64 (a : Nat), .int .i64 (b : Nat), .int .i64 (c : Nat)] 58) := ⟨_, rfl⟩
  rw [hib] at b0 ⊢
  rw [← hW0] at b0 x0 ⊢
  have HIB := Lib.hid hib
  have X1 : Hid (Ex w W0.drew) := Lib.hid (x0.trans (ex_drw W0))
  have B1 : Hid (Box W0.drew ib #[.int .i64 op, .int .i64 (a : Nat), .int .i64 (b : Nat), .int .i64 (c : Nat)] 58) := Lib.hid (b0.ex (ex_drw W0))
  have C5 : Hid (W0.drew.cell? ⟨mb, 5, none⟩ = some lv) := Lib.hid ((X1.out.cell (p := ⟨mb, 5, none⟩) mlt).trans c5)
  clear b0 x0 hW0 hib c5 f5
  refine wp_region_last (S := fun w' => Box w' ib #[.int .i64 op, .int .i64 (a : Nat), .int .i64 (b : Nat), .int .i64 (c : Nat)] 58 ∧ w'.cell? ⟨mb, 5, none⟩ = some lv) 13 14 (by kernel_rfl) (by kernel_rfl) (by kernel_rfl) ⟨B1.out, C5.out⟩ (fun hHeld => ?_)
  generalize W0.drew = Y0 at *
  refine heldL_take (i := 0) (v := ?_) rfl (by kernel_rfl) (by kernel_rfl) (by kernel_rfl) (by kernel_rfl) (fun _ _ _ h => h) (Or.inl ⟨by rfl, ?_⟩) (by assumption) ?_
  rotate_left
  · intro w hSw; (try dsimp only at hSw); have d2 : w.cell? ⟨ib, 2, none⟩ = some (.int .i64 (b : Nat)) := hSw.1.cell 2; have d5 := hSw.2; go_simp; try with_reducible rfl
  try simp only [Act.put, List.setIfInBounds_toArray, List.set_cons_zero, List.set_cons_succ]
  refine heldL_take (i := 1) (v := ?_) rfl (by kernel_rfl) (by kernel_rfl) (by kernel_rfl) (by kernel_rfl) (fun _ _ _ h => h) (Or.inl ⟨by rfl, ?_⟩) (by assumption) ?_
  rotate_left
  · intro w hSw; (try dsimp only at hSw); have d2 : w.cell? ⟨ib, 2, none⟩ = some (.int .i64 (b : Nat)) := hSw.1.cell 2; have d5 := hSw.2; go_simp; try with_reducible rfl
  try simp only [Act.put, List.setIfInBounds_toArray, List.set_cons_zero, List.set_cons_succ]
  refine heldL_take (i := 2) (v := ?_) rfl (by kernel_rfl) (by kernel_rfl) (by kernel_rfl) (by kernel_rfl) (fun _ _ _ h => h) (Or.inl ⟨by rfl, ?_⟩) (by assumption) ?_
  rotate_left
  · intro w hSw; (try dsimp only at hSw); have d2 : w.cell? ⟨ib, 2, none⟩ = some (.int .i64 (b : Nat)) := hSw.1.cell 2; have d5 := hSw.2; go_simp; try with_reducible rfl
  try simp only [Act.put, List.setIfInBounds_toArray, List.set_cons_zero, List.set_cons_succ]
  refine heldL_take (i := 3) (v := ?_) rfl (by kernel_rfl) (by kernel_rfl) (by kernel_rfl) (by kernel_rfl) (fun _ _ _ h => h) (Or.inl ⟨by rfl, ?_⟩) (by assumption) ?_
  rotate_left
  · intro w hSw; (try dsimp only at hSw); have d2 : w.cell? ⟨ib, 2, none⟩ = some (.int .i64 (b : Nat)) := hSw.1.cell 2; have d5 := hSw.2; go_simp; try with_reducible rfl
  try simp only [Act.put, List.setIfInBounds_toArray, List.set_cons_zero, List.set_cons_succ]
  refine heldL_take (i := 4) (v := ?_) rfl (by kernel_rfl) (by kernel_rfl) (by kernel_rfl) (by kernel_rfl) (fun _ _ _ h => h) (Or.inl ⟨by rfl, ?_⟩) (by assumption) ?_
  rotate_left
  · intro w hSw; (try dsimp only at hSw); have d2 : w.cell? ⟨ib, 2, none⟩ = some (.int .i64 (b : Nat)) := hSw.1.cell 2; have d5 := hSw.2; go_simp; try with_reducible rfl
  try simp only [Act.put, List.setIfInBounds_toArray, List.set_cons_zero, List.set_cons_succ]
  refine heldL_take (i := 5) (v := ?_) rfl (by kernel_rfl) (by kernel_rfl) (by kernel_rfl) (by kernel_rfl) (fun _ _ _ h => h) (Or.inl ⟨by rfl, ?_⟩) (by assumption) ?_
  rotate_left
  · intro w hSw; (try dsimp only at hSw); have d2 : w.cell? ⟨ib, 2, none⟩ = some (.int .i64 (b : Nat)) := hSw.1.cell 2; have d5 := hSw.2; go_simp; try with_reducible rfl
  try simp only [Act.put, List.setIfInBounds_toArray, List.set_cons_zero, List.set_cons_succ]
  refine heldL_take (i := 6) (v := ?_) rfl (by kernel_rfl) (by kernel_rfl) (by kernel_rfl) (by kernel_rfl) (fun _ _ _ h => h) (Or.inl ⟨by rfl, ?_⟩) (by assumption) ?_
  rotate_left
  · intro w hSw; (try dsimp only at hSw); have d2 : w.cell? ⟨ib, 2, none⟩ = some (.int .i64 (b : Nat)) := hSw.1.cell 2; have d5 := hSw.2; go_simp; try with_reducible rfl
  try simp only [Act.put, List.setIfInBounds_toArray, List.set_cons_zero, List.set_cons_succ]
  refine heldL_take (i := 7) (v := ?_) rfl (by kernel_rfl) (by kernel_rfl) (by kernel_rfl) (by kernel_rfl) (fun _ _ _ h => h) (Or.inl ⟨by rfl, ?_⟩) (by assumption) ?_
  rotate_left
  · intro w hSw; (try dsimp only at hSw); have d2 : w.cell? ⟨ib, 2, none⟩ = some (.int .i64 (b : Nat)) := hSw.1.cell 2; have d5 := hSw.2; go_simp; try with_reducible rfl
  try simp only [Act.put, List.setIfInBounds_toArray, List.set_cons_zero, List.set_cons_succ]
  refine heldL_ready (rs := [8]) (by kernel_rfl) (by simp) ?_
  refine AllL.cons rfl (fun K hK => ?_) AllL.nil
  have hms := HMK.out Y0
  go_simp
  have hHeld1 : Box (Y0.alloc (.cells (S12.ints (List.replicate kb 0)).toArray 3)) ib #[.int .i64 op, .int .i64 (a : Nat), .int .i64 (b : Nat), .int .i64 (c : Nat)] 58 ∧ (Y0.alloc (.cells (S12.ints (List.replicate kb 0)).toArray 3)).cell? ⟨mb, 5, none⟩ = some lv := ⟨hHeld.1.ex (Ex.made _ _), by have := X1.out.size; exact ((Ex.made Y0 _).cell (p := ⟨mb, 5, none⟩) (by show mb < _; omega)).trans hHeld.2⟩
  refine hK.out _ _ (fun _ => hHeld1) (fun _ => ?_)
  clear hK K hms
  try simp only [Act.put, List.setIfInBounds_toArray, List.set_cons_zero, List.set_cons_succ]
  refine heldL_ready (rs := [9]) (by kernel_rfl) (by simp) ?_
  refine AllL.cons rfl (fun K hK => ?_) AllL.nil
  go_simp
  have hHeld2 : Box ((Y0.alloc (.cells (S12.ints (List.replicate kb 0)).toArray 3)).alloc (.cells #[.slice (some ⟨Y0.heap.size, 0, none⟩) kb kb] 37)) ib #[.int .i64 op, .int .i64 (a : Nat), .int .i64 (b : Nat), .int .i64 (c : Nat)] 58 ∧ ((Y0.alloc (.cells (S12.ints (List.replicate kb 0)).toArray 3)).alloc (.cells #[.slice (some ⟨Y0.heap.size, 0, none⟩) kb kb] 37)).cell? ⟨mb, 5, none⟩ = some lv := ⟨hHeld1.1.ex (Ex.made _ _), by have := X1.out.size; exact ((Ex.made (Y0.alloc (.cells (S12.ints (List.replicate kb 0)).toArray 3)) _).cell (p := ⟨mb, 5, none⟩) (by show mb < _; simp; omega)).trans hHeld1.2⟩
  refine hK.out _ _ (fun _ => hHeld2) (fun _ => ?_)
  clear hK K
  try simp only [Act.put, List.setIfInBounds_toArray, List.set_cons_zero, List.set_cons_succ]
  have XZ : Ex w ((Y0.alloc (.cells (S12.ints (List.replicate kb 0)).toArray 3)).alloc (.cells #[.slice (some ⟨Y0.heap.size, 0, none⟩) kb kb] 37)) := (X1.out.trans (Ex.made _ _)).trans (Ex.made _ _)
  have hrow : ((Y0.alloc (.cells (S12.ints (List.replicate kb 0)).toArray 3)).alloc (.cells #[.slice (some ⟨Y0.heap.size, 0, none⟩) kb kb] 37)).ownsRow 0 37 1 lv sl ((List.range sl).map A.ov) := row_chg (F := fun _ => False) HLV.out (XZ.chg _) (fun _ _ h => h)
  have hnews : ∀ (j : Nat) (u : Value), [Value.slice (some ⟨Y0.heap.size, 0, none⟩) kb kb][j]? = some u → ((Y0.alloc (.cells (S12.ints (List.replicate kb 0)).toArray 3)).alloc (.cells #[.slice (some ⟨Y0.heap.size, 0, none⟩) kb kb] 37)).cell? ((⟨Y0.heap.size + 1, 0, none⟩ : Addr).add j) = some u := by have := one_new (Y0.alloc (.cells (S12.ints (List.replicate kb 0)).toArray 3)) (.slice (some ⟨Y0.heap.size, 0, none⟩) kb kb) 37; simpa using this
  refine heldL_ready (rs := [10]) (by kernel_rfl) (by simp) ?_
  refine AllL.cons rfl (fun K hK => ?_) AllL.nil
  refine step_append_one rfl (.tmp 15) (.tmp 20) 40 37 i0 (.slice none 0 0) 24 rfl Tryz.underlying40 hi hz0 hz1 hz2 rfl (by rfl) hrow (Nat.zero_le _) ⟨Y0.heap.size + 1, 0, none⟩ 1 1 (by rfl) [.slice (some ⟨Y0.heap.size, 0, none⟩) kb kb] rfl hnews (one_cell rfl) (by unfold maxLen; omega) (by omega) ?_
  intro v3 Y3 hown hg hor
  obtain rfl := HLVE.out
  have OE := onew_end H.out N.out X1.out (by omega) HSL.out hown hg hor
  have lvib : A.lv.ownBlock ≠ some ib := fun e => by have h1 := row_lt HLV.out e; have h2 := HIB.out; omega
  have hHeld3 : Box Y3 ib #[.int .i64 op, .int .i64 (a : Nat), .int .i64 (b : Nat), .int .i64 (c : Nat)] 58 ∧ Y3.cell? ⟨mb, 5, none⟩ = some A.lv := ⟨(hg.block ib hHeld2.1.lt (fun e => lvib e.symm)).trans hHeld2.1, OE.2.cell 5⟩
  have f53 := OE.2.soft 5
  refine hK.out _ _ (fun _ => hHeld3) (fun _ => ?_)
  clear hK K hnews hrow XZ hHeld1 hHeld2
  try simp only [Act.put, List.setIfInBounds_toArray, List.set_cons_zero, List.set_cons_succ]
  have HOE := Lib.hid OE.1
  have HOW := Lib.hid hown
  clear OE hg hor hown lvib
  refine heldL_take (i := 11) (v := ?_) rfl (by kernel_rfl) (by kernel_rfl) (by kernel_rfl) (by kernel_rfl) (fun _ _ _ h => h) (Or.inl ⟨by rfl, ?_⟩) (by assumption) ?_
  rotate_left
  · intro w hSw; (try dsimp only at hSw); have d2 : w.cell? ⟨ib, 2, none⟩ = some (.int .i64 (b : Nat)) := hSw.1.cell 2; have d5 := hSw.2; go_simp; try with_reducible rfl
  try simp only [Act.put, List.setIfInBounds_toArray, List.set_cons_zero, List.set_cons_succ]
  refine heldL_take (i := 12) (v := ?_) rfl (by kernel_rfl) (by kernel_rfl) (by kernel_rfl) (by kernel_rfl) (fun _ _ _ h => h) (Or.inl ⟨by rfl, ?_⟩) (by assumption) ?_
  rotate_left
  · intro w hSw; (try dsimp only at hSw); have d2 : w.cell? ⟨ib, 2, none⟩ = some (.int .i64 (b : Nat)) := hSw.1.cell 2; have d5 := hSw.2; go_simp; try with_reducible rfl
  try simp only [Act.put, List.setIfInBounds_toArray, List.set_cons_zero, List.set_cons_succ]
  obtain ⟨sa, sc, rfl⟩ := T13.row_val HOW.out
  refine heldL_store_rows 23 21 (by kernel_rfl) (by kernel_rfl) (by kernel_rfl) (by rfl) (by rfl) hHeld3.2 f53 ?_
  obtain ⟨t1, M1, N1, XX1, C1⟩ := HOE.out
  have i1 : (Y3.setCell ⟨mb, 5, none⟩ (.slice sa (sl + 1) sc)).cell? ⟨mb, 5, none⟩ = some (.slice sa (sl + 1) sc) := M1.box.box.cell 5
  have hbi : ib ≠ mb := by have := HIB.out; omega
  have bi := hHeld3.1.put_other hbi 5 (.slice sa (sl + 1) sc)
  have bg := M1.gor g HG.out
  have bc := HC.out.box.chg C1 (fun e => e HC.out.tag)
  have ce : gb ≠ cb := fun e => by have h1 := (H.out.gor g HG.out).tag; rw [HGB.out, e] at h1; have h2 := HC.out.tag; rw [h1] at h2; simp at h2
  obtain ⟨Z, hZ⟩ : ∃ Z, Z = Y3.setCell ⟨mb, 5, none⟩ (.slice sa (sl + 1) sc) := ⟨_, rfl⟩
  rw [← hZ] at i1 bi bg bc M1 N1 C1 ⊢
  have cbm : cb ≠ mb := fun e => by have h1 := H.out.box.tag; rw [← e] at h1; have h2 := HC.out.tag; rw [h1] at h2; simp at h2
  have bG : Box Z (A.gb g) (gcells (m.at g)) 81 := bg.box
  rw [HGB.out] at bG
  have xa : Z.cell? ⟨gb, 3 + a, none⟩ = some (.int .i64 ((m.at g).val a : Nat)) := (bG.cell _).trans (gcells_at (m.at g) a (by have := HL.out; omega))
  have fa := bG.soft (3 + a)
  have d1 : Z.cell? ⟨ib, 1, none⟩ = some (.int .i64 (a : Nat)) := bi.cell 1
  have v1 : Z.cell? ⟨cb, 4, none⟩ = some (.int .i64 0) := bc.cell 4
  have v2 := bc.soft 4
  have e2 : IntKind.i64.wrap (((sl : Int) + 1) - 1) = (sl : Int) := by rw [IntKind.wrap_i64]; omega
  have e3 : IntKind.i64.wrap ((sl : Int)) = (sl : Int) := by rw [IntKind.wrap_i64]; omega
  have a16 : (a : Int) < 16 := by omega
  have cib : ib ≠ cb := by have := HIB.out; omega
  have gib : ib ≠ gb := by have h1 := (H.out.gor g HG.out).box.lt; rw [HGB.out] at h1; have := HIB.out; omega
  have HM1 := Lib.hid M1
  have HN1 := Lib.hid N1
  have HC1 := Lib.hid C1
  have HX1 := Lib.hid XX1
  have HBC := Lib.hid bc
  have HBG := Lib.hid bG
  obtain ⟨vo, hvo⟩ : ∃ vo, (m.at g).val a = vo := ⟨_, rfl⟩
  rw [hvo] at xa
  clear hvo M1 N1 C1 XX1 bc bG bg bi hHeld3 f53 HOE HOW hZ hHeld
  go_upto_region 3 with fail
  go_region
  go_wp2_with fail
  go_ret
  refine effD_some HE.out rfl (EffT.comp HX1.out (HC1.out.weak (fun _ _ h => .inl h)) rfl ?_)
  have hcz : Cb Z { A with lv := .slice sa (sl + 1) sc, ov := fun i => if i = m.slots.length then .slice (some ⟨Y0.heap.size, 0, none⟩) kb kb else A.ov i } t1 cb cc 0 := ⟨HBC.out, (HX1.out cb clt).trans rfl ▸ HC.out.tag, HC.out.pb⟩
  have y := ex_drw ((Z.setCell ⟨cb, 4, none⟩ (.int .i64 (sl : Nat))).setCell ⟨gb, 3 + a, none⟩ (.int .i64 (sl : Nat)))
  obtain rfl := HGB.out
  refine eff_gv HM1.out HN1.out hcz HG.out ((((Chg.cell (F := fun i => i = A.gb g ∨ i = cb) Z ⟨cb, 4, none⟩ _ (.inr rfl)).trans (Chg.cell (F := fun i => i = A.gb g ∨ i = cb) _ ⟨A.gb g, 3 + a, none⟩ _ (.inl rfl)) (fun _ _ h => h)).ex y)) ?_ ?_
  · have e : gcells ((MS.at { m with slots := m.slots ++ [List.replicate kb 0] } g).top a sl) = (gcells (m.at g)).setIfInBounds (3 + a) (.int .i64 (sl : Nat)) := (gcells_set (m.at g) a sl).symm
    rw [show ((m.at g).top a sl) = ((MS.at { m with slots := m.slots ++ [List.replicate kb 0] } g).top a sl) from rfl, e]
    exact ((HBG.out.put_other ce 4 _).put (3 + a) _).ex y
  · exact ((HBC.out.put 4 _).put_other (fun e => ce e.symm) (3 + a) _).ex y

end Go.Proofs.YtmlobpapjfkbmaaGreat

/- A model's Do: its deferred closure; the table of instructions. -/
namespace Go.Proofs.YtmlobpapjfkbmaaGreat
open Go.RowKit
set_option linter.unusedVariables false
set_option maxRecDepth 20000
set_option linter.unusedSimpArgs false

theorem ta_nil (w : World) : (Instr.typeAssert .nilIface 20 83 true).run Tryz.prog w = .ok (.tuple #[.agg #[], .bool false]) w := by kernel_rfl
theorem ta_fault (w : World) : (Instr.typeAssert (.iface 83 (.agg #[])) 20 83 true).run Tryz.prog w = .ok (.tuple #[.agg #[], .bool true]) w := by kernel_rfl

set_option maxHeartbeats 3200000 in
theorem catch_idle (p q : Addr) (w : World) :
    CallsD Tryz.prog 30 #[.pointer (some p), .pointer (some q)] .returning w fun e' u' w' => e' = .returned (.tuple #[]) ∧ u' = .returning ∧ Ex w w' := by
  refine callsD_of_wpS Tryz.func30 rfl fun c₀ cs hu => ?_
  have t1 := ta_nil
  have hrep : Array.replicate 10 undef = #[undef, undef, undef, undef, undef, undef, undef, undef, undef, undef] := rfl
  apply wpS_seq
  apply wpS_region
  simp [wpOpsS, go_sem, recoverD, hu, Tryz.ntmps30, Exit.thenS, t1, hrep]
  refine wpS_of_wp ?_
  go_wp2
  refine ⟨rfl, .returning, ?_, .tuple #[], by simp [results, Tryz.results30], rfl, rfl, Ex.made _ _⟩
  cases c₀
  simp_all

/-- The fault is told, the goroutine dead. -/
def Caught (w : World) (cb tb : Nat) (cc : CmI) (older : List PanicEntry) (e' : Ending) (u' : FrameMode) (w' : World) : Prop :=
  e' = .returned (.tuple #[]) ∧ u' = .panicking ({ v := faultV, recovered := true } :: older) ∧ Box w' cb (cc.cells 0 true) 50 ∧ Box w' tb #[.int .i64 5] 3 ∧ Chg (fun i => i = cb ∨ i = tb) w w'

set_option maxHeartbeats 3200000 in
theorem catch_fault {w : World} {cb tb : Nat} {cc : CmI} {v x : Int} (older : List PanicEntry) (h0 : Box w cb (cc.cells v false) 50) (h1 : Box w tb #[.int .i64 x] 3) (d1 : cb ≠ tb) :
    CallsD Tryz.prog 30 #[.pointer (some ⟨cb, 0, none⟩), .pointer (some ⟨tb, 0, none⟩)] (.panicking ({ v := faultV, recovered := false } :: older)) w (Caught w cb tb cc older) := by
  refine callsD_of_wpS Tryz.func30 rfl fun c₀ cs hu => ?_
  have t1 := ta_fault
  unfold faultV at hu
  have hrep : Array.replicate 10 undef = #[undef, undef, undef, undef, undef, undef, undef, undef, undef, undef] := rfl
  apply wpS_seq
  apply wpS_region
  simp [wpOpsS, go_sem, recoverD, hu, Tryz.ntmps30, Exit.thenS, t1, hrep]
  refine wpS_of_wp ?_
  have l0 := h0.lt
  have l1 := h1.lt
  have K0 := Lib.hid (h0.ex (Ex.made w (.cells #[] 83)))
  have K1 := Lib.hid (h1.ex (Ex.made w (.cells #[] 83)))
  have KE := Lib.hid (Ex.made w (.cells #[] 83))
  obtain ⟨W, hW⟩ : ∃ W, W = w.alloc (.cells #[] 83) := ⟨_, rfl⟩
  rw [← hW] at K0 K1 KE ⊢
  have c0 : W.cell? ⟨cb, 4, none⟩ = some (.int .i64 v) := K0.out.cell 4
  have c1 : W.cell? ⟨cb, 5, none⟩ = some (.bool false) := K0.out.cell 5
  have c2 : W.cell? ⟨tb, 0, none⟩ = some (.int .i64 x) := K1.out.cell 0
  have f0 := K0.out.soft 4
  have f1 := K0.out.soft 5
  have f2 := K1.out.soft 0
  have n1 : ¬ cb = tb := d1
  have n2 : ¬ tb = cb := fun e => d1 e.symm
  clear hW h0 h1 t1
  go_wp2
  refine ⟨rfl, .panicking ({ v := faultV, recovered := true } :: older), by cases c₀; simp_all [faultV], .tuple #[], by simp [results, Tryz.results30], rfl, rfl, ?_, ?_, ?_⟩
  · exact ((K0.out.put 4 (.int .i64 0)).put 5 (.bool true)).put_other d1 0 _
  · exact ((K1.out.put_other d1.symm 4 _).put_other d1.symm 5 _).put 0 _
  · exact (KE.out.chg _).trans (((Chg.cell (F := fun i => i = cb ∨ i = tb) W ⟨cb, 4, none⟩ (.int .i64 0) (.inl rfl)).trans (Chg.cell (F := fun i => i = cb ∨ i = tb) _ ⟨cb, 5, none⟩ (.bool true) (.inl rfl)) (fun _ _ h => h)).trans (Chg.cell (F := fun i => i = cb ∨ i = tb) _ ⟨tb, 0, none⟩ (.int .i64 5) (.inr rfl)) (fun _ _ h => h)) (fun _ _ h => h)

/-- What each instruction is done by. -/
def doesV (mb : Nat) : Array Value := #[
  .func (Fn.func 54) #[.pointer (some ⟨mb, 0, none⟩)] #[], .func (Fn.func 55) #[.pointer (some ⟨mb, 0, none⟩)] #[], .func (Fn.func 56) #[.pointer (some ⟨mb, 0, none⟩)] #[],
  .func (Fn.func 57) #[.pointer (some ⟨mb, 0, none⟩)] #[], .func (Fn.func 58) #[.pointer (some ⟨mb, 0, none⟩)] #[], .func (Fn.func 59) #[.pointer (some ⟨mb, 0, none⟩)] #[],
  .func (Fn.func 60) #[.pointer (some ⟨mb, 0, none⟩)] #[], .func (Fn.func 61) #[.pointer (some ⟨mb, 0, none⟩)] #[], .func (Fn.func 62) #[.pointer (some ⟨mb, 0, none⟩)] #[],
  .func (Fn.func 63) #[.pointer (some ⟨mb, 0, none⟩)] #[], .func (Fn.func 64) #[.pointer (some ⟨mb, 0, none⟩)] #[], .func (Fn.func 65) #[.pointer (some ⟨mb, 0, none⟩)] #[],
  .func (Fn.func 66) #[.pointer (some ⟨mb, 0, none⟩)] #[], .func (Fn.func 67) #[.pointer (some ⟨mb, 0, none⟩)] #[], .func (Fn.func 68) #[.pointer (some ⟨mb, 0, none⟩)] #[],
  .func (Fn.func 69) #[.pointer (some ⟨mb, 0, none⟩)] #[], .func (Fn.func 70) #[.pointer (some ⟨mb, 0, none⟩)] #[], .func (Fn.func 71) #[.pointer (some ⟨mb, 0, none⟩)] #[]]

set_option maxHeartbeats 3200000 in
theorem does_any (w : World) (mb : Nat) : Calls Tryz.prog 31 #[.pointer (some ⟨mb, 0, none⟩)] w
    fun e w' => e = .returned (.slice (some ⟨w.heap.size, 0, none⟩) 18 18) ∧ w' = w.alloc (.cells (doesV mb) 85) := by
  have hmf : ∀ (fn : Fn) (first cap : Array Value) (w : World), (Instr.makeFunc fn first cap).run Tryz.prog w = .ok (.func fn first cap) w := fun _ _ _ _ => rfl
  go_enter Tryz.func31, Tryz.ntmps31
  go_wp2_with fail
  go_ret
  exact ⟨rfl, rfl⟩

end Go.Proofs.YtmlobpapjfkbmaaGreat

/- A model's instructions, all of them by their numbers. -/
namespace Go.Proofs.YtmlobpapjfkbmaaGreat
open Go.RowKit
set_option linter.unusedVariables false
set_option maxRecDepth 20000
set_option linter.unusedSimpArgs false

structure Wf (m : MS) : Prop where
  st : m.st.length = m.gs.length
  stk : ∀ g, g < m.gs.length → (m.at g).stack.length = 16 ∧ ∀ a, (m.at g).val a < m.slots.length
  s0 : 0 < m.slots.length
  sn : m.slots.length ≤ 100000
  on : ∀ i, (m.slots.getD i []).length ≤ 1000
  gl : m.globals.length ≤ 32
  sl : m.sleep.length < 900
  k : m.k < 1000000
  cl : m.clock ≤ 1000000000
  wt : ∀ i, (m.wait.getD i []).length ≤ 100000
  cnt : ∀ g, g < m.gs.length → (m.at g).count ≤ 100000
/-- The parts of an instruction are within their bounds. -/
def InstOk (m : MS) (op a b c : Nat) : Prop :=
  match op with
  | 1 => a < 16 ∧ b < 256
  | 2 => a < 16 ∧ b < 16
  | 3 => a < 16 ∧ c < 16
  | 4 => a < 16 ∧ b < 16
  | 5 => a < 16
  | 6 => a < 16 ∧ b < m.globals.length
  | 7 => a < m.globals.length ∧ b < 16
  | 8 => b < 16
  | 10 => b < 256 ∧ c < 256
  | 11 => a < 32
  | 12 => a < 32
  | 13 => a < 16 ∧ b < 16
  | 15 => a < 16 ∧ b < 16
  | 16 => a < 256 ∧ b < 256
  | _ => True
def fnOf : Nat → FuncId
  | 0 => 54
  | 1 => 55
  | 2 => 56
  | 3 => 57
  | 4 => 58
  | 5 => 59
  | 6 => 60
  | 7 => 61
  | 8 => 62
  | 9 => 63
  | 10 => 64
  | 11 => 65
  | 12 => 66
  | 13 => 67
  | 14 => 68
  | 15 => 69
  | 16 => 70
  | _ => 71

theorem inst_m {w : World} {A : Adr} {t : Nat → Tg} {mb : Nat} {F : Fns} {m : MS} (h : Md w A t mb F m) (n : New w t) {cb : Nat} {cc : CmI} (hc : Cb w A t cb cc 0) {g : Nat} (hg : g < m.gs.length) (W : Wf m) (op a b c : Nat) (ho : op < 18) (ok : InstOk m op a b c) :
    Calls Tryz.prog (fnOf op) #[.pointer (some ⟨mb, 0, none⟩), .int .i64 (g : Nat), .pointer (some ⟨A.gb g, 0, none⟩), .agg #[.int .i64 (op : Nat), .int .i64 (a : Nat), .int .i64 (b : Nat), .int .i64 (c : Nat)], .pointer (some ⟨cb, 4, none⟩)] w
      (EffD w A t mb F cb cc (effM m g op a b c)) := by
  have hl := (W.stk g hg).1
  have hv := (W.stk g hg).2
  match op, ho, ok with
  | 0, _, _ => exact exit_m h n hc hg hl _ a b c
  | 1, _, ok => exact alloc_m h n hc hg hl W.s0 W.sn _ a b c ok.1 ok.2
  | 2, _, ok => exact load_m h n hc hg hl W.sn W.on _ a b c ok.1 ok.2 (hv b)
  | 3, _, ok => exact store_m h n hc hg hl W.sn W.on _ a b c ok.1 ok.2 (hv a)
  | 4, _, ok => exact move_m h n hc hg hl _ a b c ok.1 ok.2
  | 5, _, ok => exact zero_m h n hc hg hl _ a b c ok
  | 6, _, ok => exact get_m h n hc hg hl _ a b c ok.1 ok.2 W.gl
  | 7, _, ok => exact put_m h n hc hg hl _ a b c ok.1 ok.2 W.gl
  | 8, _, ok => exact begin_m h n hc hg hl W.st _ a b c ok
  | 9, _, _ => exact yield_m h n hc hg hl _ a b c
  | 10, _, ok => exact sleep_m h n hc hg W.sl W.k W.cl _ a b c ok.1 ok.2
  | 11, _, ok => exact block_m h n hc hg W.wt _ a b c ok
  | 12, _, ok => exact wake_m h n hc hg W.wt _ a b c ok
  | 13, _, ok => exact eq_m h n hc hg hl _ a b c ok.1 ok.2
  | 14, _, _ => exact jump_m h n hc hg hl _ a b c
  | 15, _, ok => exact jeq_m h n hc hg hl _ a b c ok.1 ok.2
  | 16, _, ok => exact set_m h n hc hg hl _ a b c ok.1 ok.2
  | 17, _, _ => exact dec_m h n hc hg hl _ a b c (W.cnt g hg)
  | k + 18, h, _ => omega

/-- An instruction's closure, in its table. -/
theorem doesV_at (mb : Nat) : ∀ op, op < 18 → (doesV mb)[op]? = some (.func (Fn.func (fnOf op)) #[.pointer (some ⟨mb, 0, none⟩)] #[])
  | 0, _ => rfl
  | 1, _ => rfl
  | 2, _ => rfl
  | 3, _ => rfl
  | 4, _ => rfl
  | 5, _ => rfl
  | 6, _ => rfl
  | 7, _ => rfl
  | 8, _ => rfl
  | 9, _ => rfl
  | 10, _ => rfl
  | 11, _ => rfl
  | 12, _ => rfl
  | 13, _ => rfl
  | 14, _ => rfl
  | 15, _ => rfl
  | 16, _ => rfl
  | 17, _ => rfl
  | k + 18, h => absurd h (by omega)

end Go.Proofs.YtmlobpapjfkbmaaGreat

/- A model's Do: the closure that does an instruction and recovers a fault. -/
namespace Go.Proofs.YtmlobpapjfkbmaaGreat
open Go.RowKit
set_option linter.unusedVariables false
set_option maxRecDepth 20000
set_option linter.unusedSimpArgs false

/-- The panics of a call with a deferred one, whatever the frame holds. -/
def PanD (ds : List Deferred) (PP : List PanicEntry → World → Prop) (Q : Exit → Act → World → Prop) : Exit → Act → World → Prop
  | .panic c, a, w => PP c w ∧ a.defers = ds
  | e, a, w => Q e a w
theorem wp_pand {P : Program} {c : Code} {Q : Exit → Act → World → Prop} {a : Act} {W : World} (ds : List Deferred) (PP : List PanicEntry → World → Prop) (himp : ∀ c a w, PP c w → a.defers = ds → Q (.panic c) a w) (h : c.wp P (PanD ds PP Q) a W) : c.wp P Q a W :=
  Code.wp_mono (fun e a w k => by
    cases e
    case panic c => exact himp c a w k.1 k.2
    all_goals exact k) h
theorem put_def (a : Act) (d : Option Tmp) (v : Value) : (a.put d v).defers = a.defers := by cases d <;> rfl
theorem panD_normal {ds : List Deferred} {PP : List PanicEntry → World → Prop} {Q : Exit → Act → World → Prop} {a : Act} {w : World} (h : Q .normal a w) : PanD ds PP Q .normal a w := h

/-- What the closure leaves: told in cb, the state behind in tb. -/
def DoneR (w : World) (A : Adr) (t : Nat → Tg) (mb : Nat) (F : Fns) (cb tb : Nat) (cc : CmI) (r : MS × Int × Option Nat) (e : Ending) (w' : World) : Prop :=
  e = .returned (.tuple #[]) ∧ ∃ A' t', Md w' A' t' mb F r.1 ∧ New w' t' ∧ (∀ i, i < w.heap.size → t' i = t i) ∧ A'.pb = A.pb ∧ Box w' cb (cc.cells (if r.2.2.isNone then 0 else r.2.1) r.2.2.isNone) 50 ∧ Box w' tb #[.int .i64 (r.2.2.getD 5 : Nat)] 3 ∧
    Chg (fun i => (t i).1 ≠ 0 ∨ i = cb ∨ i = tb) w w'

/-- The boxes of what the closure reads. -/
structure Caps (w : World) (mb mx ix gx xx : Nat) (gb : Nat) (g op a b c : Nat) : Prop where
  m : Box w mx #[.pointer (some ⟨mb, 0, none⟩)] 29
  i : Box w ix #[.int .i64 (op : Nat), .int .i64 (a : Nat), .int .i64 (b : Nat), .int .i64 (c : Nat)] 58
  g : Box w gx #[.int .i64 (g : Nat)] 3
  x : Box w xx #[.pointer (some ⟨gb, 0, none⟩)] 78
theorem Caps.ex {w w' : World} {mb mx ix gx xx gb g op a b c : Nat} (h : Caps w mb mx ix gx xx gb g op a b c) (x : Ex w w') : Caps w' mb mx ix gx xx gb g op a b c := ⟨h.m.ex x, h.i.ex x, h.g.ex x, h.x.ex x⟩
theorem Caps.chg {P : Nat → Prop} {w w' : World} {mb mx ix gx xx gb g op a b c : Nat} (h : Caps w mb mx ix gx xx gb g op a b c) (x : Chg P w w') (h1 : ¬ P mx) (h2 : ¬ P ix) (h3 : ¬ P gx) (h4 : ¬ P xx) : Caps w' mb mx ix gx xx gb g op a b c := ⟨h.m.chg x h1, h.i.chg x h2, h.g.chg x h3, h.x.chg x h4⟩

theorem eff_boxes {w Y w2 : World} {A : Adr} {t : Nat → Tg} {mb : Nat} {F : Fns} {m' : MS} {cb tb : Nat} {cc : CmI} {v : Int} {x0 : Value} (x : Ex w Y) (ht : Box w tb #[x0] 3) (htt : (t tb).1 = 0) (hct : cb ≠ tb) (hE : EffT Y A t mb F cb cc m' v w2) : Box w2 cb (cc.cells v false) 50 ∧ Box w2 tb #[x0] 3 := by
  obtain ⟨A', t', k1, k2, k3, k4, k5, k6⟩ := hE
  refine ⟨k5, (ht.ex x).chg k6 ?_⟩
  rintro (e | e)
  · exact e htt
  · exact hct e.symm
theorem eff_caps {Y w2 : World} {A : Adr} {t : Nat → Tg} {mb : Nat} {F : Fns} {m' : MS} {cb : Nat} {cc : CmI} {v : Int} {mx ix gx xx gb g op a b c : Nat} (hE : EffT Y A t mb F cb cc m' v w2) (h : Caps Y mb mx ix gx xx gb g op a b c) (k1 : mx ≠ cb ∧ ix ≠ cb ∧ gx ≠ cb ∧ xx ≠ cb) (k2 : (t mx).1 = 0 ∧ (t ix).1 = 0 ∧ (t gx).1 = 0 ∧ (t xx).1 = 0) : Caps w2 mb mx ix gx xx gb g op a b c := by
  obtain ⟨A', t', -, -, -, -, -, k6⟩ := hE
  obtain ⟨a1, a2, a3, a4⟩ := k1
  obtain ⟨b1, b2, b3, b4⟩ := k2
  exact h.chg k6 (fun e => e.elim (fun e => e b1) a1) (fun e => e.elim (fun e => e b2) a2) (fun e => e.elim (fun e => e b3) a3) (fun e => e.elim (fun e => e b4) a4)
theorem done_chg {w Y w2 w3 : World} {A : Adr} {t : Nat → Tg} {mb : Nat} {F : Fns} {m' : MS} {cb tb : Nat} {cc : CmI} {v v' : Int} {bad : Bool} {to : Nat} (x : Ex w Y) (hcl : cb < w.heap.size) (hct : (t cb).1 = 0) (hcp : A.pb ≤ cb) (htl : tb < w.heap.size) (htt : (t tb).1 = 0) (htp : A.pb ≤ tb)
    (hE : EffT Y A t mb F cb cc m' v w2) (k : Chg (fun i => i = cb ∨ i = tb) w2 w3) (b1 : Box w3 cb (cc.cells v' bad) 50) (b2 : Box w3 tb #[.int .i64 (to : Nat)] 3) :
    ∃ A' t', Md w3 A' t' mb F m' ∧ New w3 t' ∧ (∀ i, i < w.heap.size → t' i = t i) ∧ A'.pb = A.pb ∧ Box w3 cb (cc.cells v' bad) 50 ∧ Box w3 tb #[.int .i64 (to : Nat)] 3 ∧ Chg (fun i => (t i).1 ≠ 0 ∨ i = cb ∨ i = tb) w w3 := by
  obtain ⟨A', t', k1, k2, k3, k4, k5, k6⟩ := hE
  have hs := x.size
  refine ⟨A', t', k1.ex k ?_, k2.le k.size, fun i hi => k3 i (by omega), k4, b1, b2, ((x.chg _).trans (k6.weak (fun i _ h => h.imp id .inl)) (fun _ _ h => h)).trans k (fun i _ h => .inr h)⟩
  rintro i (rfl | rfl)
  · exact .inr ⟨by rw [k3 _ (by omega)]; exact hct, by rw [k4]; exact hcp⟩
  · exact .inr ⟨by rw [k3 _ (by omega)]; exact htt, by rw [k4]; exact htp⟩

set_option maxHeartbeats 25600000 in
theorem do1_m {w : World} {A : Adr} {t : Nat → Tg} {mb : Nat} {F : Fns} {m : MS} (h : Md w A t mb F m) (n : New w t) {cb tb mx ix gx xx : Nat} {cc : CmI} (hc : Cb w A t cb cc 0) {g : Nat} (hg : g < m.gs.length) (W : Wf m) (op a b c : Nat) (ho : op < 18) (ok : InstOk m op a b c)
    (ht : Box w tb #[.int .i64 1] 3) (htt : (t tb).1 = 0) (htp : A.pb ≤ tb) (hct : cb ≠ tb) (hk : Caps w mb mx ix gx xx (A.gb g) g op a b c) (k1 : mx ≠ cb ∧ ix ≠ cb ∧ gx ≠ cb ∧ xx ≠ cb) (k2 : (t mx).1 = 0 ∧ (t ix).1 = 0 ∧ (t gx).1 = 0 ∧ (t xx).1 = 0) :
    Calls Tryz.prog 29 #[.pointer (some ⟨cb, 0, none⟩), .pointer (some ⟨tb, 0, none⟩), .pointer (some ⟨mx, 0, none⟩), .pointer (some ⟨ix, 0, none⟩), .pointer (some ⟨gx, 0, none⟩), .pointer (some ⟨xx, 0, none⟩)] w
      (DoneR w A t mb F cb tb cc (effM m g op a b c)) := by
  have HN := Lib.hid n
  have HC := Lib.hid hc
  have HT := Lib.hid ht
  have HTT : Hid ((t tb).1 = 0) := Lib.hid htt
  have HTP : Hid (A.pb ≤ tb) := Lib.hid htp
  have HCT : Hid (cb ≠ tb) := Lib.hid hct
  have KI := Lib.hid (fun W1 (x : Ex w W1) => inst_m (h.exs x) (n.le x.size) (⟨hc.box.ex x, hc.tag, hc.pb⟩ : Cb W1 A t cb cc 0) hg W op a b c ho ok)
  have KD := Lib.hid (fun W1 => does_any W1 mb)
  have VO := Lib.hid (doesV_at mb op ho)
  obtain ⟨fi, hfi⟩ : ∃ fi, fnOf op = fi := ⟨_, rfl⟩
  rw [hfi] at KI VO
  have HFI := Lib.hid hfi
  have HO := Lib.hid ho
  clear hfi
  obtain ⟨r, hr⟩ : ∃ r, effM m g op a b c = r := ⟨_, rfl⟩
  rw [hr] at KI ⊢
  obtain ⟨gb, hgb⟩ : ∃ gb, A.gb g = gb := ⟨_, rfl⟩
  rw [hgb] at KI hk
  have HK := Lib.hid hk
  have K1 := Lib.hid k1
  have K2 := Lib.hid k2
  have ho1 : (op : Int) < 18 := by omega
  have hmf : ∀ (fn : Fn) (first cap : Array Value) (w : World), (Instr.makeFunc fn first cap).run Tryz.prog w = .ok (.func fn first cap) w := fun _ _ _ _ => rfl
  clear h n hc hg W ok ht htt htp hct hk k1 k2 hr hgb
  go_enter_defers Tryz.func29, Tryz.ntmps29
  go_upto_region 1 with fail

  refine wp_pand [{ target := Target.fn (Fn.func 30) #[.pointer (some ⟨cb, 0, none⟩), .pointer (some ⟨tb, 0, none⟩)], args := #[] }] (fun c W2 => c = [{ v := faultV, recovered := false }] ∧ r.2.2 = none ∧ ∃ v' Y, Ex w Y ∧ EffT Y A t mb F cb cc r.1 v' W2) ?_ ?_
  · rintro c' ⟨tm, df⟩ W2 ⟨rfl, hrn, v', Y, x, hE⟩ rfl
    obtain ⟨bx, tx⟩ := eff_boxes x HT.out HTT.out HCT.out hE
    refine leaves_cons (f := 30) (args := #[.pointer (some ⟨cb, 0, none⟩), .pointer (some ⟨tb, 0, none⟩)]) (by simp) (by simp [go_sem]) ?_
    refine (catch_fault [] bx tx HCT.out).mono ?_
    rintro e u' w3 ⟨rfl, rfl, b1, b2, kk⟩
    have FIN := Lib.hid (done_chg (v' := 0) (bad := true) (to := 5) x HC.out.box.lt HC.out.tag HC.out.pb HT.out.lt HTT.out HTP.out hE kk b1 b2)
    have HRN := Lib.hid hrn
    clear hE kk b1 b2 bx tx hrn
    simp [Leaves, settle, results, Tryz.results29, go_sem]
    refine ⟨rfl, ?_⟩
    have e1 : r.2.2.isNone = true := by rw [HRN.out]; rfl
    have e2 : r.2.2.getD 5 = 5 := by rw [HRN.out]; rfl
    rw [e1, e2, if_pos rfl]
    exact FIN.out
  refine wp_region_last (S := fun w' => Caps w' mb mx ix gx xx gb g op a b c) 11 12 (by kernel_rfl) (by kernel_rfl) (by kernel_rfl) (HK.out.ex (ex_drw w)) (fun hHeld => ?_)
  have X0 : Hid (Ex w w.drew) := Lib.hid (ex_drw w)
  generalize w.drew = Y0 at *
  refine heldL_take (i := 0) (v := ?_) rfl (by kernel_rfl) (by kernel_rfl) (by kernel_rfl) (by kernel_rfl) (fun _ _ _ h => ⟨h.1, (put_def _ _ _).symm.trans h.2⟩) (Or.inl ⟨by rfl, ?_⟩) (by assumption) ?_
  rotate_left
  · intro w hSw; (try dsimp only at hSw); have d1 : w.cell? ⟨mx, 0, none⟩ = some (.pointer (some ⟨mb, 0, none⟩)) := hSw.m.cell 0; have d2 : w.cell? ⟨ix, 0, none⟩ = some (.int .i64 (op : Nat)) := hSw.i.cell 0; have d3 : w.cell? ⟨ix, 1, none⟩ = some (.int .i64 (a : Nat)) := hSw.i.cell 1; have d4 : w.cell? ⟨ix, 2, none⟩ = some (.int .i64 (b : Nat)) := hSw.i.cell 2; have d5 : w.cell? ⟨ix, 3, none⟩ = some (.int .i64 (c : Nat)) := hSw.i.cell 3; have d6 : w.cell? ⟨gx, 0, none⟩ = some (.int .i64 (g : Nat)) := hSw.g.cell 0; have d7 : w.cell? ⟨xx, 0, none⟩ = some (.pointer (some ⟨gb, 0, none⟩)) := hSw.x.cell 0; go_simp; try with_reducible rfl
  try simp only [Act.put, List.setIfInBounds_toArray, List.set_cons_zero, List.set_cons_succ]
  refine heldL_take (i := 2) (v := ?_) rfl (by kernel_rfl) (by kernel_rfl) (by kernel_rfl) (by kernel_rfl) (fun _ _ _ h => ⟨h.1, (put_def _ _ _).symm.trans h.2⟩) (Or.inl ⟨by rfl, ?_⟩) (by assumption) ?_
  rotate_left
  · intro w hSw; (try dsimp only at hSw); have d1 : w.cell? ⟨mx, 0, none⟩ = some (.pointer (some ⟨mb, 0, none⟩)) := hSw.m.cell 0; have d2 : w.cell? ⟨ix, 0, none⟩ = some (.int .i64 (op : Nat)) := hSw.i.cell 0; have d3 : w.cell? ⟨ix, 1, none⟩ = some (.int .i64 (a : Nat)) := hSw.i.cell 1; have d4 : w.cell? ⟨ix, 2, none⟩ = some (.int .i64 (b : Nat)) := hSw.i.cell 2; have d5 : w.cell? ⟨ix, 3, none⟩ = some (.int .i64 (c : Nat)) := hSw.i.cell 3; have d6 : w.cell? ⟨gx, 0, none⟩ = some (.int .i64 (g : Nat)) := hSw.g.cell 0; have d7 : w.cell? ⟨xx, 0, none⟩ = some (.pointer (some ⟨gb, 0, none⟩)) := hSw.x.cell 0; go_simp; try with_reducible rfl
  try simp only [Act.put, List.setIfInBounds_toArray, List.set_cons_zero, List.set_cons_succ]
  refine heldL_take (i := 3) (v := ?_) rfl (by kernel_rfl) (by kernel_rfl) (by kernel_rfl) (by kernel_rfl) (fun _ _ _ h => ⟨h.1, (put_def _ _ _).symm.trans h.2⟩) (Or.inl ⟨by rfl, ?_⟩) (by assumption) ?_
  rotate_left
  · intro w hSw; (try dsimp only at hSw); have d1 : w.cell? ⟨mx, 0, none⟩ = some (.pointer (some ⟨mb, 0, none⟩)) := hSw.m.cell 0; have d2 : w.cell? ⟨ix, 0, none⟩ = some (.int .i64 (op : Nat)) := hSw.i.cell 0; have d3 : w.cell? ⟨ix, 1, none⟩ = some (.int .i64 (a : Nat)) := hSw.i.cell 1; have d4 : w.cell? ⟨ix, 2, none⟩ = some (.int .i64 (b : Nat)) := hSw.i.cell 2; have d5 : w.cell? ⟨ix, 3, none⟩ = some (.int .i64 (c : Nat)) := hSw.i.cell 3; have d6 : w.cell? ⟨gx, 0, none⟩ = some (.int .i64 (g : Nat)) := hSw.g.cell 0; have d7 : w.cell? ⟨xx, 0, none⟩ = some (.pointer (some ⟨gb, 0, none⟩)) := hSw.x.cell 0; go_simp; try with_reducible rfl
  try simp only [Act.put, List.setIfInBounds_toArray, List.set_cons_zero, List.set_cons_succ]
  refine heldL_take (i := 6) (v := ?_) rfl (by kernel_rfl) (by kernel_rfl) (by kernel_rfl) (by kernel_rfl) (fun _ _ _ h => ⟨h.1, (put_def _ _ _).symm.trans h.2⟩) (Or.inl ⟨by rfl, ?_⟩) (by assumption) ?_
  rotate_left
  · intro w hSw; (try dsimp only at hSw); have d1 : w.cell? ⟨mx, 0, none⟩ = some (.pointer (some ⟨mb, 0, none⟩)) := hSw.m.cell 0; have d2 : w.cell? ⟨ix, 0, none⟩ = some (.int .i64 (op : Nat)) := hSw.i.cell 0; have d3 : w.cell? ⟨ix, 1, none⟩ = some (.int .i64 (a : Nat)) := hSw.i.cell 1; have d4 : w.cell? ⟨ix, 2, none⟩ = some (.int .i64 (b : Nat)) := hSw.i.cell 2; have d5 : w.cell? ⟨ix, 3, none⟩ = some (.int .i64 (c : Nat)) := hSw.i.cell 3; have d6 : w.cell? ⟨gx, 0, none⟩ = some (.int .i64 (g : Nat)) := hSw.g.cell 0; have d7 : w.cell? ⟨xx, 0, none⟩ = some (.pointer (some ⟨gb, 0, none⟩)) := hSw.x.cell 0; go_simp; try with_reducible rfl
  try simp only [Act.put, List.setIfInBounds_toArray, List.set_cons_zero, List.set_cons_succ]
  refine heldL_take (i := 7) (v := ?_) rfl (by kernel_rfl) (by kernel_rfl) (by kernel_rfl) (by kernel_rfl) (fun _ _ _ h => ⟨h.1, (put_def _ _ _).symm.trans h.2⟩) (Or.inl ⟨by rfl, ?_⟩) (by assumption) ?_
  rotate_left
  · intro w hSw; (try dsimp only at hSw); have d1 : w.cell? ⟨mx, 0, none⟩ = some (.pointer (some ⟨mb, 0, none⟩)) := hSw.m.cell 0; have d2 : w.cell? ⟨ix, 0, none⟩ = some (.int .i64 (op : Nat)) := hSw.i.cell 0; have d3 : w.cell? ⟨ix, 1, none⟩ = some (.int .i64 (a : Nat)) := hSw.i.cell 1; have d4 : w.cell? ⟨ix, 2, none⟩ = some (.int .i64 (b : Nat)) := hSw.i.cell 2; have d5 : w.cell? ⟨ix, 3, none⟩ = some (.int .i64 (c : Nat)) := hSw.i.cell 3; have d6 : w.cell? ⟨gx, 0, none⟩ = some (.int .i64 (g : Nat)) := hSw.g.cell 0; have d7 : w.cell? ⟨xx, 0, none⟩ = some (.pointer (some ⟨gb, 0, none⟩)) := hSw.x.cell 0; go_simp; try with_reducible rfl
  try simp only [Act.put, List.setIfInBounds_toArray, List.set_cons_zero, List.set_cons_succ]
  refine heldL_take (i := 8) (v := ?_) rfl (by kernel_rfl) (by kernel_rfl) (by kernel_rfl) (by kernel_rfl) (fun _ _ _ h => ⟨h.1, (put_def _ _ _).symm.trans h.2⟩) (Or.inl ⟨by rfl, ?_⟩) (by assumption) ?_
  rotate_left
  · intro w hSw; (try dsimp only at hSw); have d1 : w.cell? ⟨mx, 0, none⟩ = some (.pointer (some ⟨mb, 0, none⟩)) := hSw.m.cell 0; have d2 : w.cell? ⟨ix, 0, none⟩ = some (.int .i64 (op : Nat)) := hSw.i.cell 0; have d3 : w.cell? ⟨ix, 1, none⟩ = some (.int .i64 (a : Nat)) := hSw.i.cell 1; have d4 : w.cell? ⟨ix, 2, none⟩ = some (.int .i64 (b : Nat)) := hSw.i.cell 2; have d5 : w.cell? ⟨ix, 3, none⟩ = some (.int .i64 (c : Nat)) := hSw.i.cell 3; have d6 : w.cell? ⟨gx, 0, none⟩ = some (.int .i64 (g : Nat)) := hSw.g.cell 0; have d7 : w.cell? ⟨xx, 0, none⟩ = some (.pointer (some ⟨gb, 0, none⟩)) := hSw.x.cell 0; go_simp; try with_reducible rfl
  try simp only [Act.put, List.setIfInBounds_toArray, List.set_cons_zero, List.set_cons_succ]
  refine heldL_take (i := 9) (v := ?_) rfl (by kernel_rfl) (by kernel_rfl) (by kernel_rfl) (by kernel_rfl) (fun _ _ _ h => ⟨h.1, (put_def _ _ _).symm.trans h.2⟩) (Or.inl ⟨by rfl, ?_⟩) (by assumption) ?_
  rotate_left
  · intro w hSw; (try dsimp only at hSw); have d1 : w.cell? ⟨mx, 0, none⟩ = some (.pointer (some ⟨mb, 0, none⟩)) := hSw.m.cell 0; have d2 : w.cell? ⟨ix, 0, none⟩ = some (.int .i64 (op : Nat)) := hSw.i.cell 0; have d3 : w.cell? ⟨ix, 1, none⟩ = some (.int .i64 (a : Nat)) := hSw.i.cell 1; have d4 : w.cell? ⟨ix, 2, none⟩ = some (.int .i64 (b : Nat)) := hSw.i.cell 2; have d5 : w.cell? ⟨ix, 3, none⟩ = some (.int .i64 (c : Nat)) := hSw.i.cell 3; have d6 : w.cell? ⟨gx, 0, none⟩ = some (.int .i64 (g : Nat)) := hSw.g.cell 0; have d7 : w.cell? ⟨xx, 0, none⟩ = some (.pointer (some ⟨gb, 0, none⟩)) := hSw.x.cell 0; go_simp; try with_reducible rfl
  try simp only [Act.put, List.setIfInBounds_toArray, List.set_cons_zero, List.set_cons_succ]
  refine heldL_ready (rs := [1]) (by kernel_rfl) (by simp) ?_
  refine AllL.cons rfl (fun K hK => ?_) AllL.nil
  go_simp
  go_at_call 31
  refine (KD.out _).mono ?_
  rintro e w1 ⟨rfl, hw1⟩
  have x1 : Ex Y0 w1 := by rw [hw1]; exact Ex.made _ _
  have D1 : w1.cell? ⟨Y0.heap.size, op, none⟩ = some (.func (Fn.func fi) #[.pointer (some ⟨mb, 0, none⟩)] #[]) := by rw [hw1, (Box.fresh Y0 (doesV mb) 85).cell op]; exact VO.out
  have hHeld1 := Caps.ex hHeld x1
  have X1 := Lib.hid (X0.out.trans x1)
  refine hK.out _ _ (fun _ => hHeld1) (fun _ => ?_)
  clear hK K hw1 x1
  try simp only [Act.put, List.setIfInBounds_toArray, List.set_cons_zero, List.set_cons_succ]
  obtain ⟨D, hD⟩ : ∃ D, Y0.heap.size = D := ⟨_, rfl⟩
  rw [hD] at D1 ⊢
  clear hD hHeld X0
  refine heldL_ready (rs := [4]) (by kernel_rfl) (by simp) ?_
  refine AllL.cons rfl (fun K hK => ?_) AllL.nil
  go_simp
  refine hK.out _ _ (fun _ => hHeld1) (fun _ => ?_)
  clear hK K
  try simp only [Act.put, List.setIfInBounds_toArray, List.set_cons_zero, List.set_cons_succ]
  refine heldL_ready (rs := [5]) (by kernel_rfl) (by simp) ?_
  refine AllL.cons rfl (fun K hK => ?_) AllL.nil
  go_simp
  refine hK.out _ _ (fun _ => hHeld1) (fun _ => ?_)
  clear hK K
  try simp only [Act.put, List.setIfInBounds_toArray, List.set_cons_zero, List.set_cons_succ]
  clear D1 VO KD
  have hfi := HFI.out
  have ho := HO.out
  have ks := KI.out w1 X1.out
  have KS := Lib.hid ks
  clear KI ks HFI HO
  have hop : op = 0 ∨ op = 1 ∨ op = 2 ∨ op = 3 ∨ op = 4 ∨ op = 5 ∨ op = 6 ∨ op = 7 ∨ op = 8 ∨ op = 9 ∨ op = 10 ∨ op = 11 ∨ op = 12 ∨ op = 13 ∨ op = 14 ∨ op = 15 ∨ op = 16 ∨ op = 17 := by omega
  rcases hop with rfl | rfl | rfl | rfl | rfl | rfl | rfl | rfl | rfl | rfl | rfl | rfl | rfl | rfl | rfl | rfl | rfl | rfl
  all_goals
    simp only [fnOf] at hfi
    subst hfi
    refine heldL_ready (rs := [10]) (by kernel_rfl) (by simp) ?_
    refine AllL.cons rfl (fun K hK => ?_) AllL.nil
    go_simp
    refine KS.out.mono ?_
    intro e w2 he
    unfold EffD at he
    rcases hr : r.2.2 with _ | to
    · rw [hr] at he
      obtain ⟨rfl, v', hE⟩ := he
      have HRN := Lib.hid hr
      clear hr
      go_simp
      exact ⟨⟨rfl, v', w1, X1.out, hE⟩, rfl⟩
    · rw [hr] at he
      obtain ⟨rfl, hE⟩ := he
      have HRN := Lib.hid hr
      have HE := Lib.hid hE
      have hS := eff_caps hE hHeld1 K1.out K2.out
      have hbt := eff_boxes X1.out HT.out HTT.out HCT.out hE
      have o1 : w2.cell? ⟨tb, 0, none⟩ = some (.int .i64 1) := hbt.2.cell 0
      have o2 := hbt.2.soft 0
      clear hr hE
      refine hK.out _ _ (fun _ => hS) (fun _ => ?_)
      clear hK K
      try simp only [Act.put, List.setIfInBounds_toArray, List.set_cons_zero, List.set_cons_succ]
      refine heldL_store_int 1 17 (by kernel_rfl) (by kernel_rfl) (by kernel_rfl) (by rfl) (by rfl) o1 o2 ?_
      refine panD_normal ?_
      refine leaves_cons (f := 30) (args := #[.pointer (some ⟨cb, 0, none⟩), .pointer (some ⟨tb, 0, none⟩)]) (by simp) (by simp [go_sem]) ?_
      refine (catch_idle _ _ _).mono ?_
      rintro e u' w3 ⟨rfl, rfl, hx⟩
      have FIN := Lib.hid (done_chg (v' := r.2.1) (bad := false) (to := to) X1.out HC.out.box.lt HC.out.tag HC.out.pb HT.out.lt HTT.out HTP.out HE.out ((Chg.cell (F := fun i => i = cb ∨ i = tb) w2 ⟨tb, 0, none⟩ (.int .i64 (to : Nat)) (.inr rfl)).ex hx) ((hbt.1.put_other HCT.out 0 _).ex hx) ((hbt.2.put 0 _).ex hx))
      clear hx hbt o1 o2 hS
      simp [Leaves, settle, results, Tryz.results29, go_sem]
      refine ⟨rfl, ?_⟩
      have e1 : r.2.2.isNone = false := by rw [HRN.out]; rfl
      have e2 : r.2.2.getD 5 = to := by rw [HRN.out]; rfl
      rw [e1, e2, if_neg (by simp)]
      exact FIN.out

end Go.Proofs.YtmlobpapjfkbmaaGreat

