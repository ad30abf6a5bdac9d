/- Part 17 of what is proved of the program of layer 16: RSpawn16, ROtherC16, ROtherD16, ROtherE16, RTick16, RStuck16. -/
import Derived.Test.YtmlobpapjfkbmaaGreatK16
import Derived.Test.YtmlobpapjfkbmaaGreatK14
import Derived.Test.YtmlobpapjfkbmaaGreatK13
import Derived.Test.YtmlobpapjfkbmaaGreatK15
/- The document's spawn. -/
namespace Go.Proofs.YtmlobpapjfkbmaaGreat
open Go.RowKit
set_option linter.unusedVariables false
set_option maxRecDepth 20000
set_option linter.unusedSimpArgs false

theorem info_rg : (Tryz.prog.info? 75).map (fun i => (i.zero, i.size, i.bytes)) = some (some (.pointer none), 1, 8) := by kernel_rfl
/-- The tags of a new goroutine's blocks. -/
def tagR (t : Nat → Tg) (s n : Nat) (ob : Option Nat) : Nat → Tg := fun i => if i = s then (13, n) else if i = s + 1 then (10, n) else if ob = some i then (4, 0) else t i
def SpawnD (w : World) (A : RA) (t : Nat → Tg) (xb : Nat) (F : Fns) (m' : MS) (w' : World) : Prop :=
  ∃ A' t', Rf w' A' t' xb F m' ∧ New w' t' ∧ (∀ i, i < w.heap.size → t' i = t i) ∧ A'.pb = A.pb ∧ Chg (fun i => (t i).1 ≠ 0) w w'

theorem rspawn_end {w W1 W2 w' : World} {A : RA} {t : Nat → Tg} {xb : Nat} {F : Fns} {m : MS} {f v s k : Nat} (h : Rf w A t xb F m) (nw : New w t) (hs : w.heap.size = s) (x1 : Ex w W1) (hsz : W1.heap.size = s + 2)
    (bs : Box W1 s (S12.ints (newG f v).stack).toArray 3) (bg : Box W1 (s + 1) (rgcells 1 (newG f v) s) 74) (hk : m.gs.length = k) {g' cap : Nat}
    (hown : W2.ownsRow 0 75 1 (.slice (some ⟨g', 0, none⟩) (k + 1) cap) (k + 1) (ptrs A.gb k ++ [.pointer (some ⟨s + 1, 0, none⟩)]))
    (hgr : (W1.alloc (.cells #[.pointer (some ⟨s + 1, 0, none⟩)] 75)).grownBy W2 A.gv.ownBlock)
    (hor : A.gv.ownBlock = some g' ∨ s + 2 + 1 ≤ g')
    (hw : w' = W2.setCell ⟨xb, 2, none⟩ (.slice (some ⟨g', 0, none⟩) (k + 1) cap)) : SpawnD w A t xb F (spawnM m f v) w' := by
  subst hw hk
  have x2 : Ex w (W1.alloc (.cells #[.pointer (some ⟨s + 1, 0, none⟩)] 75)) := x1.trans (Ex.made _ _)
  have hsz2 : (W1.alloc (.cells #[.pointer (some ⟨s + 1, 0, none⟩)] 75)).heap.size = s + 3 := by simp [hsz]
  have gvlt : ∀ b, A.gv.ownBlock = some b → b < s := fun b hb => by rw [← hs]; exact row_lt h.grow.row hb
  have gvt : ∀ b, A.gv.ownBlock = some b → t b = (4, 0) := fun b hb => h.grow.tag b hb
  have xlt : xb < s := by rw [← hs]; exact h.box.box.lt
  have xne : A.gv.ownBlock ≠ some xb := fun e => by have h1 := gvt _ e; rw [h.box.tag] at h1; simp at h1
  have gx : g' ≠ xb := by
    rcases hor with e | e
    · intro e2; exact xne (e2 ▸ e)
    · omega
  have gs : g' ≠ s ∧ g' ≠ s + 1 := by
    rcases hor with e | e
    · have := gvlt _ e; omega
    · omega
  have k1 := (x2.chg (fun i => i = xb ∨ A.gv.ownBlock = some i)).trans (Chg.grown (F := fun i => i = xb ∨ A.gv.ownBlock = some i) hgr (fun i hi => .inr hi)) (fun _ _ h => h)
  have k2 := k1.trans (Chg.cell (F := fun i => i = xb ∨ A.gv.ownBlock = some i) W2 ⟨xb, 2, none⟩ (.slice (some ⟨g', 0, none⟩) (m.gs.length + 1) cap) (.inl rfl)) (fun _ _ h => h)
  have bm : Box W2 xb (rcells A m.clock) 48 := (hgr.block xb (by rw [hsz2]; omega) (fun e => xne e.symm)).trans (h.box.box.ex x2)
  have bm3 : Box (W2.setCell ⟨xb, 2, none⟩ (.slice (some ⟨g', 0, none⟩) (m.gs.length + 1) cap)) xb (rcells { A with gv := .slice (some ⟨g', 0, none⟩) (m.gs.length + 1) cap } m.clock) 48 := bm.put 2 (.slice (some ⟨g', 0, none⟩) (m.gs.length + 1) cap)
  have bs2 : Box W2 s _ 3 := (hgr.block s (by rw [hsz2]; omega) (fun e => by have := gvlt _ e.symm; omega)).trans (bs.ex (Ex.made _ _))
  have bg2 : Box W2 (s + 1) _ 74 := (hgr.block (s + 1) (by rw [hsz2]; omega) (fun e => by have := gvlt _ e.symm; omega)).trans (bg.ex (Ex.made _ _))
  have bs3 := bs2.put_other (show s ≠ xb by omega) 2 (.slice (some ⟨g', 0, none⟩) (m.gs.length + 1) cap)
  have bg3 := bg2.put_other (show s + 1 ≠ xb by omega) 2 (.slice (some ⟨g', 0, none⟩) (m.gs.length + 1) cap)
  have ho3 := row_chg (F := fun i => i = xb) hown (Chg.cell (F := fun i => i = xb) W2 ⟨xb, 2, none⟩ (.slice (some ⟨g', 0, none⟩) (m.gs.length + 1) cap) rfl) (fun b hb e => by cases hb; exact gx e)
  have hx : ∀ i, i < w.heap.size → tagR t s m.gs.length (some g') i = t i := fun i hi => by
    unfold tagR
    rw [if_neg (by omega), if_neg (by omega)]
    split
    · next e =>
      cases e
      rcases hor with e | e
      · exact (gvt _ e).symm
      · omega
    · rfl
  have tg : tagR t s m.gs.length (some g') g' = (4, 0) := by unfold tagR; rw [if_neg gs.1, if_neg gs.2, if_pos rfl]
  have R := (h.retag nw hx).gnew (.slice (some ⟨g', 0, none⟩) (m.gs.length + 1) cap) (s + 1) s (newG f v) bm3 ⟨ho3, fun b hb => by cases hb; exact tg⟩ ⟨bg3, by unfold tagR; rw [if_neg (by omega), if_pos rfl]⟩ ⟨bs3, if_pos rfl⟩ k2 (by
    rintro i (rfl | hi)
    · left; rw [hx i (by omega), h.box.tag]; simp
    · left; rw [hx i (by rw [hs]; exact gvlt i hi), gvt i hi]; simp)
  refine ⟨_, _, R, fun i hi => ?_, hx, rfl, k2.weak ?_⟩
  · have h1 := bs3.lt
    have h2 := bg3.lt
    have h3 : g' < (W2.setCell ⟨xb, 2, none⟩ (.slice (some ⟨g', 0, none⟩) (m.gs.length + 1) cap)).heap.size := row_lt ho3 rfl
    unfold tagR
    rw [if_neg (by omega), if_neg (by omega), if_neg (fun e => by cases e; omega)]
    exact nw i (Nat.le_trans k2.size hi)
  · rintro i - (rfl | hi)
    · rw [h.box.tag]; simp
    · rw [gvt i hi]; simp

set_option maxRecDepth 20000 in
set_option maxHeartbeats 6400000 in
theorem rspawn_any {w : World} {A : RA} {t : Nat → Tg} {xb : Nat} {F : Fns} {m : MS} (h : Rf w A t xb F m) (n : New w t) (hl : m.gs.length < 1024) (f v : Nat) :
    Calls Tryz.prog 24 #[.pointer (some ⟨xb, 0, none⟩), .int .i64 (f : Nat), .int .i64 (v : Nat)] w fun e w' => e = .returned (.int .i64 (m.gs.length : Nat)) ∧ SpawnD w A t xb F (spawnM m f v) w' := by
  have H := Lib.hid h
  have N := Lib.hid n
  obtain ⟨k, hk⟩ : ∃ k, m.gs.length = k := ⟨_, rfl⟩
  have HK := Lib.hid hk
  rw [hk] at hl ⊢
  have xlt : xb < w.heap.size := h.box.box.lt
  have hms := make_ints w 16 (by omega)
  rw [show ((16 : Nat) : Int) = 16 from rfl, show (S12.ints (List.replicate 16 0)).toArray = #[.int .i64 0, .int .i64 0, .int .i64 0, .int .i64 0, .int .i64 0, .int .i64 0, .int .i64 0, .int .i64 0, .int .i64 0, .int .i64 0, .int .i64 0, .int .i64 0, .int .i64 0, .int .i64 0, .int .i64 0, .int .i64 0] from rfl] at hms
  clear h n hk
  go_enter Tryz.func24, Tryz.ntmps24
  go_upto_region 3 with fail
  have b1 : Box ((w.alloc (.cells (S12.ints (newG f v).stack).toArray 3)).alloc (.cells (rgcells 1 (newG f v) w.heap.size) 74)) w.heap.size (S12.ints (newG f v).stack).toArray 3 := (Box.fresh w _ _).ex (Ex.made _ _)
  have b2 : Box ((w.alloc (.cells (S12.ints (newG f v).stack).toArray 3)).alloc (.cells (rgcells 1 (newG f v) w.heap.size) 74)) (w.heap.size + 1) (rgcells 1 (newG f v) w.heap.size) 74 := by
    have := Box.fresh (w.alloc (.cells (S12.ints (newG f v).stack).toArray 3)) (rgcells 1 (newG f v) w.heap.size) 74
    simpa using this
  have x1 : Ex w ((w.alloc (.cells (S12.ints (newG f v).stack).toArray 3)).alloc (.cells (rgcells 1 (newG f v) w.heap.size) 74)) := (Ex.made _ _).trans (Ex.made _ _)
  have hsz : ((w.alloc (.cells (S12.ints (newG f v).stack).toArray 3)).alloc (.cells (rgcells 1 (newG f v) w.heap.size) 74)).heap.size = w.heap.size + 2 := by simp
  obtain ⟨W1, hW1⟩ : ∃ W, W = ((w.alloc (.cells (S12.ints (newG f v).stack).toArray 3)).alloc (.cells (rgcells 1 (newG f v) w.heap.size) 74)) := ⟨_, rfl⟩
  rw [← hW1] at b1 b2 x1 hsz
  obtain ⟨s, hs⟩ : ∃ s, w.heap.size = s := ⟨_, rfl⟩
  have hW2 : W1 = ((w.alloc (.cells #[.int .i64 (v : Nat), .int .i64 0, .int .i64 0, .int .i64 0, .int .i64 0, .int .i64 0, .int .i64 0, .int .i64 0, .int .i64 0, .int .i64 0, .int .i64 0, .int .i64 0, .int .i64 0, .int .i64 0, .int .i64 0, .int .i64 0] 3)).alloc (.cells #[.int .i64 1, .int .i64 (f : Nat), .int .i64 0, .int .i64 0, .slice (some ⟨w.heap.size, 0, none⟩) 16 16] 74)) := hW1
  rw [← hW2]
  rw [hs] at b1 b2 hsz ⊢
  have B1 := Lib.hid b1
  have B2 := Lib.hid b2
  have X1 := Lib.hid x1
  have HSZ := Lib.hid hsz
  have HS := Lib.hid hs
  have R1 := H.out.exs x1
  have c2 : W1.cell? ⟨xb, 2, none⟩ = some A.gv := R1.box.box.cell 2
  have mne : A.gv.ownBlock ≠ some xb := fun e => by have h1 := H.out.grow.tag _ e; rw [H.out.box.tag] at h1; simp at h1
  have HNE := Lib.hid mne
  have HBM := Lib.hid R1.box.box
  have hgr := R1.grow.row
  rw [HK.out] at hgr
  obtain ⟨gv, hgv⟩ : ∃ gv, A.gv = gv := ⟨_, rfl⟩
  rw [hgv] at c2 hgr HNE
  have HGR := Lib.hid hgr
  have HGV := Lib.hid hgv
  have xlt1 : xb < W1.heap.size := R1.box.box.lt
  clear b1 b2 x1 hW1 hW2 R1 mne hgr hgv hms
  obtain ⟨i0, hi, hz0, hz1, hz2⟩ := info_parts info_rg
  have s1 : Hid ((W1.alloc (.cells #[.pointer (some ⟨s + 1, 0, none⟩)] 75)).ownsRow 0 75 1 gv k (ptrs A.gb k)) := Lib.hid (HGR.out.alloc _)
  have s2 : Hid (∀ (j : Nat) (u : Value), [Value.pointer (some ⟨s + 1, 0, none⟩)][j]? = some u → (W1.alloc (.cells #[.pointer (some ⟨s + 1, 0, none⟩)] 75)).cell? ((⟨s + 2, 0, none⟩ : Addr).add j) = some u) := Lib.hid (by
    have := one_new W1 (.pointer (some ⟨s + 1, 0, none⟩)) 75
    rw [HSZ.out] at this; exact this)
  have ek : IntKind.i64.wrap (((k + 1 : Nat) : Int) - 1) = (k : Int) := by rw [IntKind.wrap_i64]; omega
  have ek2 : IntKind.i64.wrap ((k : Int) + 1 - 1) = (k : Int) := by rw [IntKind.wrap_i64]; omega
  clear hs
  go_wp2_with (at_builtin; refine wpList_append_mine _ rfl (.tmp 22) (.tmp 24) 39 rfl 0 75 i0 (.pointer none) 1 8 Tryz.underlying39 hi hz0 hz1 hz2 rfl (by decide) _ _ _ rfl s1.out ⟨s + 2, 0, none⟩ 1 1 [.pointer (some ⟨s + 1, 0, none⟩)] rfl rfl s2.out (one_cell rfl) (by unfold maxLen; omega) (by omega) (Nat.zero_le _) (by omega) ?_)
  intro g' cap w2 hown hgrow hor hlt hc1 hc2
  have HO := Lib.hid hown
  have HG := Lib.hid hgrow
  have HOR := Lib.hid hor
  have bm2 : Box w2 xb (rcells A m.clock) 48 := (hgrow.block xb (by simp; omega) (fun e => HNE.out e.symm)).trans (HBM.out.ex (Ex.made W1 _))
  have c3 : w2.cell? ⟨xb, 2, none⟩ = some gv := by rw [bm2.cell, ← HGV.out]; rfl
  have f3 := bm2.soft 2
  have xlt2 : xb < w2.heap.size := bm2.lt
  clear hown hgrow hor bm2 c2
  go_wp2_with fail
  go_ret
  obtain rfl := HGV.out
  exact ⟨rfl, rspawn_end H.out N.out HS.out X1.out HSZ.out B1.out B2.out HK.out HO.out HG.out HOR.out rfl⟩

end Go.Proofs.YtmlobpapjfkbmaaGreat

/- The document's other: block, sleep. -/
namespace Go.Proofs.YtmlobpapjfkbmaaGreat
open Go.RowKit
set_option linter.unusedVariables false
set_option maxRecDepth 20000
set_option linter.unusedSimpArgs false

/-- What Wait leaves. -/
def RWaitR (w : World) (A : RA) (t : Nat → Tg) (xb : Nat) (F : Fns) (m : MS) (a x : Nat) (e : Ending) (w' : World) : Prop :=
  e = .returned (.int .i64 0) ∧ ∃ v t', Rf w' { A with wv := fun i => if i = a then v else A.wv i } t' xb F { m with wait := m.wait.set a (m.wait.getD a [] ++ [x]) } ∧ New w' t' ∧ (∀ i, i < w.heap.size → t' i = t i) ∧ Chg (fun i => i = xb) w w'

set_option maxHeartbeats 12800000 in
theorem rother_11 {w : World} {A : RA} {t : Nat → Tg} {xb : Nat} {F : Fns} {m : MS} (h : Rf w A t xb F m) (n : New w t) {cb : Nat} {cc : CmI} (hc : CbR w A t cb cc 0) {g : Nat} (hg : g < m.gs.length) (hn : m.gs.length ≤ 1024) (a b c : Nat) (ha : a < 32) (hs : ∀ i, (m.wait.getD i []).length ≤ 100000) (hno : ∀ i, i < 32 → (m.wait.getD i []).contains g = false) :
    Calls Tryz.prog 34 #[.pointer (some ⟨xb, 0, none⟩), .int .i64 (g : Nat), .agg #[.int .i64 11, .int .i64 (a : Nat), .int .i64 (b : Nat), .int .i64 (c : Nat)], .pointer (some ⟨cb, 0, none⟩)] w
      fun e w' => e = .returned (.tuple #[]) ∧ REff w A t xb F cb cc { m with wait := m.wait.set a (m.wait.getD a [] ++ [g]), st := m.st.set g 3 } 0 false w' := by
  have H := Lib.hid h
  have N := Lib.hid n
  have HC := Lib.hid hc
  have HG := Lib.hid hg
  have hB := (h.gor g hg).box
  obtain ⟨rb, rc, hgv, rlt, rcap, rcell⟩ := h.gvat hg
  have c2 : w.cell? ⟨xb, 2, none⟩ = some A.gv := h.box.box.cell 2
  rw [hgv] at c2
  have g0 : w.cell? ⟨A.gb g, 0, none⟩ = some (.int .i64 (m.st.getD g 0 : Nat)) := by rw [hB.cell]; rfl
  have f0 := hB.soft 0
  have hlt := hB.lt
  have xlt := h.box.box.lt
  obtain ⟨gl, hgl⟩ : ∃ gl, m.gs.length = gl := ⟨_, rfl⟩
  rw [hgl] at c2 rcap hn
  have i1 : (g : Int) < (gl : Int) := by have := HG.out; omega
  have i00 : (0 : Int) ≤ (g : Int) := by omega
  have K1 : Hid (∀ W, Ex (w.setCell ⟨A.gb g, 0, none⟩ (.int .i64 3)) W → Rf W A t xb F { m with st := m.st.set g 3 } ∧ Chg (fun i => i = A.gb g) w W) := Lib.hid (fun W x => rf_st h hg 3 (Ex.refl _) x)
  have KW : Hid (∀ W, Ex (w.setCell ⟨A.gb g, 0, none⟩ (.int .i64 3)) W → Calls Tryz.prog 73 #[.pointer (some ⟨xb, 6, none⟩), .int .i64 (a : Nat), .int .i64 (g : Nat)] W (RWaitR W A t xb F { m with st := m.st.set g 3 } a g)) := Lib.hid (fun W x => rwait_any (K1.out W x).1 (n.le (K1.out W x).2.size) hs a g ha hno)
  obtain ⟨gb, hgb⟩ : ∃ gb, A.gb g = gb := ⟨_, rfl⟩
  rw [hgb] at K1 KW
  simp only [hgb] at rcell g0 f0 hlt
  have HGB := Lib.hid hgb
  clear h n hc hg hB hgv hgl hgb hs hno
  go_enter Tryz.func34, Tryz.ntmps34
  go_upto_region 14 with fail
  have x0 := Ex.made (w.setCell ⟨gb, 0, none⟩ (.int .i64 3)) (.cells #[.int .i64 11, .int .i64 (a : Nat), .int .i64 (b : Nat), .int .i64 (c : Nat)] 58)
  have X0 := Lib.hid x0
  clear x0
  go_region_with (go_at_call 73; refine (KW.out _ (X0.out.trans (Ex.drawn _ _))).mono ?_; rintro e w1 ⟨rfl, hR⟩; have HR := Lib.hid hR; clear hR)
  all_goals
    go_wp2_with fail
    obtain ⟨v, t', R1, R2, R3, R4⟩ := HR.out
    have KX := (K1.out _ (X0.out.trans (Ex.drawn _ 1))).2
    have tg := (H.out.gor g HG.out).tag
    obtain ⟨n1, -, -, n4⟩ := cb_rg H.out HC.out HG.out
    have kA := (KX.weak (fun i _ hi => (show (t i).1 ≠ 0 ∨ i = cb from .inl (by rw [hi, ← HGB.out, tg]; simp)))).trans (R4.weak (fun i _ hi => (show (t i).1 ≠ 0 ∨ i = cb from .inl (by rw [hi, H.out.box.tag]; simp)))) (fun _ _ h => h)
    refine Go.Great.bodyPost_end0 rfl rfl ⟨rfl, _, t', R1, R2, fun i hi => R3 i (Nat.lt_of_lt_of_le hi KX.size), rfl, ?_, kA⟩
    exact (HC.out.box.chg KX (fun e => n1 (by rw [HGB.out, e]))).chg R4 (fun e => n4 e.symm)

/-- The sleepers as Timers has them. -/
theorem Rf.rt {w : World} {A : RA} {t : Nat → Tg} {xb : Nat} {F : Fns} {m : MS} (h : Rf w A t xb F m) : T13.Rt w xb 5 A.tv m.sleep := by
  refine ⟨h.box.box.cell 5, h.box.box.soft 5, h.box.box.lt, ?_⟩
  rcases h.tm with q | ⟨g, off, cap, q1, q2, q3, q4⟩
  · exact .inl q
  · refine .inr ⟨g, off, cap, q1, q2, fun e => ?_, q3, q4⟩
    have := h.tmt g (by rw [q1]; rfl)
    rw [e, h.box.tag] at this; simp at this
theorem rcells_tv (A : RA) (k : Nat) (v : Value) : (rcells A k).setIfInBounds 5 v = rcells { A with tv := v } k := rfl
/-- The sleepers are others. -/
theorem Rf.slept {w w' : World} {A : RA} {t : Nat → Tg} {xb : Nat} {F : Fns} {m : MS} (h : Rf w A t xb F m) (n : New w t) {v' : Value} {S : List T13.T3} (hr : T13.Rt w' xb 5 v' S) (hb : T13.NewB w A.tv v') (hx : T13.Chx xb 5 w w') (k : Nat) :
    ∃ t', Rf w' { A with tv := v' } t' xb F { m with sleep := S, k := k } ∧ New w' t' ∧ (∀ i, i < w.heap.size → t' i = t i) := by
  obtain ⟨hc, hw⟩ := hx
  obtain ⟨u, hu⟩ := hw _ _ h.box.box
  have eu : u = v' := by
    have h1 := hu.cell 5
    rw [hr.cell] at h1
    have h2 : (rcells { A with tv := u } m.clock)[5]? = some u := rfl
    rw [rcells_tv, h2] at h1
    exact (Option.some.inj h1).symm
  subst eu
  rw [rcells_tv] at hu
  have xlt := h.box.box.lt
  have hlt : ∀ b, u.ownBlock = some b → b < w'.heap.size := fun b hb => by
    rcases hr.row with ⟨h1, -⟩ | ⟨g, off, cap, h1, -, -, h2, -⟩
    · rw [h1] at hb; cases hb
    · rw [h1] at hb; cases hb; exact h2
  have ht : ∀ i, i < w.heap.size → (if u.ownBlock = some i then (8, 0) else t i) = t i := fun i hi => by
    split
    · next e =>
      rcases hb i e with q | q
      · exact (h.tmt i q).symm
      · omega
    · rfl
  have R := (h.retag (t' := fun i => if u.ownBlock = some i then (8, 0) else t i) n ht).timers (P := fun i => i = xb) u k S hu (by
    rcases hr.row with q | ⟨g, off, cap, q1, q2, -, q3, q4⟩
    · exact .inl q
    · exact .inr ⟨g, off, cap, q1, q2, q3, q4⟩) (fun b e => if_pos e) hc (by
    rintro i rfl
    left
    have e : (fun i => if u.ownBlock = some i then ((8, 0) : Tg) else t i) i = (1, 0) := (ht i xlt).trans h.box.tag
    rw [e]; simp)
  refine ⟨_, R, fun i hi => ?_, ht⟩
  show (if u.ownBlock = some i then (8, 0) else t i).1 = 0
  rw [if_neg (fun e => by have := hlt i e; omega)]
  exact n i (Nat.le_trans hc.size hi)

/-- A sleeper is added. -/
theorem rsleep_add {w : World} {A : RA} {t : Nat → Tg} {xb : Nat} {F : Fns} {m : MS} (h : Rf w A t xb F m) (n : New w t) (hS : m.sleep.length ≤ 200) (hu : T13.Up m.sleep) (x : Int) (g : Nat) :
    Calls Tryz.prog 72 #[.pointer (some ⟨xb, 5, none⟩), .int .i64 x, .int .i64 (g : Nat)] w
      fun e w' => e = .returned (.tuple #[]) ∧ ∃ v t', Rf w' { A with tv := v } t' xb F { m with sleep := T13.insT (x, (g : Int), (m.k : Int) + 1) m.sleep, k := m.k + 1 } ∧ New w' t' ∧ (∀ i, i < w.heap.size → t' i = t i) ∧ Chg (fun i => i = xb) w w' := by
  refine (T13.radd_any h.rt hS x (g : Nat) ((m.k : Int) + 1)).mono ?_
  rintro e w' ⟨rfl, ⟨v', hr, hb⟩, hx⟩
  rw [T13.addR_ins hu] at hr
  obtain ⟨t', R1, R2, R3⟩ := h.slept n hr hb hx (m.k + 1)
  exact ⟨rfl, v', t', R1, R2, R3, hx.1⟩

set_option maxHeartbeats 12800000 in
theorem rother_10 {w : World} {A : RA} {t : Nat → Tg} {xb : Nat} {F : Fns} {m : MS} (h : Rf w A t xb F m) (n : New w t) {cb : Nat} {cc : CmI} (hc : CbR w A t cb cc 0) {g : Nat} (hg : g < m.gs.length) (hn : m.gs.length ≤ 1024) (a b c : Nat) (hb : b < 256) (hc3 : c < 256) (hS : m.sleep.length ≤ 200) (hu : T13.Up m.sleep) (hcl : m.clock ≤ 1000000000) :
    Calls Tryz.prog 34 #[.pointer (some ⟨xb, 0, none⟩), .int .i64 (g : Nat), .agg #[.int .i64 10, .int .i64 (a : Nat), .int .i64 (b : Nat), .int .i64 (c : Nat)], .pointer (some ⟨cb, 0, none⟩)] w
      fun e w' => e = .returned (.tuple #[]) ∧ REff w A t xb F cb cc { m with sleep := T13.insT (((m.clock + (256 * b + c + 1) : Nat) : Int), (g : Int), (m.k : Int) + 1) m.sleep, k := m.k + 1, st := m.st.set g 3 } 0 false w' := by
  have H := Lib.hid h
  have N := Lib.hid n
  have HC := Lib.hid hc
  have HG := Lib.hid hg
  have hB := (h.gor g hg).box
  obtain ⟨rb, rc, hgv, rlt, rcap, rcell⟩ := h.gvat hg
  have c2 : w.cell? ⟨xb, 2, none⟩ = some A.gv := h.box.box.cell 2
  rw [hgv] at c2
  have c38 : w.cell? ⟨xb, 38, none⟩ = some (.int .i64 (m.clock : Nat)) := h.box.box.cell 38
  have g0 : w.cell? ⟨A.gb g, 0, none⟩ = some (.int .i64 (m.st.getD g 0 : Nat)) := by rw [hB.cell]; rfl
  have f0 := hB.soft 0
  have hlt := hB.lt
  have xlt := h.box.box.lt
  have ngx : A.gb g ≠ xb := fun e => by have q1 := (h.gor g hg).tag; rw [e, h.box.tag] at q1; simp at q1
  have nxg : xb ≠ A.gb g := fun e => ngx e.symm
  obtain ⟨gl, hgl⟩ : ∃ gl, m.gs.length = gl := ⟨_, rfl⟩
  rw [hgl] at c2 rcap hn
  have i1 : (g : Int) < (gl : Int) := by have := HG.out; omega
  have i00 : (0 : Int) ≤ (g : Int) := by omega
  have e1 : IntKind.i64.wrap ((b : Int) * 256) = 256 * (b : Int) := by rw [IntKind.wrap_i64]; omega
  have e2 : IntKind.i64.wrap (256 * (b : Int) + (c : Int)) = 256 * (b : Int) + (c : Int) := by rw [IntKind.wrap_i64]; omega
  have e3 : IntKind.i64.wrap (256 * (b : Int) + (c : Int) + 1) = 256 * (b : Int) + (c : Int) + 1 := by rw [IntKind.wrap_i64]; omega
  have K1 : Hid (∀ W, Ex (w.setCell ⟨A.gb g, 0, none⟩ (.int .i64 3)) W → Rf W A t xb F { m with st := m.st.set g 3 } ∧ Chg (fun i => i = A.gb g) w W) := Lib.hid (fun W x => rf_st h hg 3 (Ex.refl _) x)
  have KW := Lib.hid (fun W (x : Ex (w.setCell ⟨A.gb g, 0, none⟩ (.int .i64 3)) W) => rsleep_add (K1.out W x).1 (n.le (K1.out W x).2.size) hS hu ((m.clock + (256 * b + c + 1) : Nat) : Int) g)
  obtain ⟨gb, hgb⟩ : ∃ gb, A.gb g = gb := ⟨_, rfl⟩
  obtain ⟨cl, hcl2⟩ : ∃ cl, m.clock = cl := ⟨_, rfl⟩
  rw [hgb] at K1 KW ngx nxg
  rw [hcl2] at c38 hcl KW ⊢
  have e4 : IntKind.i64.wrap ((cl : Int) + (256 * (b : Int) + (c : Int) + 1)) = ((cl + (256 * b + c + 1) : Nat) : Int) := by rw [IntKind.wrap_i64]; omega
  obtain ⟨wn, hwn⟩ : ∃ wn, ((cl + (256 * b + c + 1) : Nat) : Int) = wn := ⟨_, rfl⟩
  rw [hwn] at e4 KW ⊢
  simp only [hgb] at rcell g0 f0 hlt
  have HGB := Lib.hid hgb
  clear h n hc hg hB hgv hgl hgb hS hu hcl2 hwn
  go_enter Tryz.func34, Tryz.ntmps34
  go_upto_region 11 with fail
  have x0 := Ex.made (w.setCell ⟨gb, 0, none⟩ (.int .i64 3)) (.cells #[.int .i64 10, .int .i64 (a : Nat), .int .i64 (b : Nat), .int .i64 (c : Nat)] 58)
  have X0 := Lib.hid x0
  clear x0
  go_region_with (go_at_call 72; refine (KW.out _ (X0.out.trans (Ex.drawn _ _))).mono ?_; rintro e w1 ⟨rfl, hR⟩; have HR := Lib.hid hR; clear hR)
  all_goals
    go_wp2_with fail
    obtain ⟨v, t', R1, R2, R3, R4⟩ := HR.out
    have KX := (K1.out _ (X0.out.trans (Ex.drawn _ 1))).2
    have tg := (H.out.gor g HG.out).tag
    obtain ⟨n1, -, -, n4⟩ := cb_rg H.out HC.out HG.out
    have kA := (KX.weak (fun i _ hi => (show (t i).1 ≠ 0 ∨ i = cb from .inl (by rw [hi, ← HGB.out, tg]; simp)))).trans (R4.weak (fun i _ hi => (show (t i).1 ≠ 0 ∨ i = cb from .inl (by rw [hi, H.out.box.tag]; simp)))) (fun _ _ h => h)
    refine Go.Great.bodyPost_end0 rfl rfl ⟨rfl, _, t', R1, R2, fun i hi => R3 i (Nat.lt_of_lt_of_le hi KX.size), rfl, ?_, kA⟩
    exact (HC.out.box.chg KX (fun e => n1 (by rw [HGB.out, e]))).chg R4 (fun e => n4 e.symm)

end Go.Proofs.YtmlobpapjfkbmaaGreat

/- The document's other: spawn. -/
namespace Go.Proofs.YtmlobpapjfkbmaaGreat
open Go.RowKit
set_option linter.unusedVariables false
set_option maxRecDepth 20000
set_option linter.unusedSimpArgs false

/-- REff, but a goroutine may have come. -/
def REffX (w : World) (A : RA) (t : Nat → Tg) (xb : Nat) (F : Fns) (cb : Nat) (cc : CmI) (m' : MS) (v : Int) (bad : Bool) (w' : World) : Prop :=
  ∃ A' t', Rf w' A' t' xb F m' ∧ New w' t' ∧ (∀ i, i < w.heap.size → t' i = t i) ∧ A'.pb = A.pb ∧ (bad = true → A'.gb = A.gb) ∧ Box w' cb (cc.cells v bad) 50 ∧ Chg (fun i => (t i).1 ≠ 0 ∨ i = cb) w w'
theorem REff.x {w w' : World} {A : RA} {t : Nat → Tg} {xb : Nat} {F : Fns} {m' : MS} {cb : Nat} {cc : CmI} {v : Int} {bad : Bool} (h : REff w A t xb F cb cc m' v bad w') : REffX w A t xb F cb cc m' v bad w' := by
  obtain ⟨A', t', h1, h2, h3, h4, h5, h6⟩ := h
  exact ⟨A', t', h1, h2, h3, congrArg Prod.fst h4, fun _ => congrArg Prod.snd h4, h5, h6⟩
theorem spawn_effx {w w0 w1 w2 : World} {A : RA} {t : Nat → Tg} {xb : Nat} {F : Fns} {m' : MS} {cb : Nat} {cc : CmI} {v : Int} (hc : CbR w A t cb cc 0) (x : Ex w w0) (s : SpawnD w0 A t xb F m' w1) (hw : w2 = w1.setCell ⟨cb, 4, none⟩ (.int .i64 v)) : REffX w A t xb F cb cc m' v false w2 := by
  subst hw
  obtain ⟨A', t', h1, h2, h3, h4, h5⟩ := s
  have hcb : t' cb = t cb := h3 cb (Nat.lt_of_lt_of_le hc.box.lt x.size)
  have k := Chg.cell (F := fun i => i = cb) w1 ⟨cb, 4, none⟩ (.int .i64 v) rfl
  refine ⟨A', t', h1.ex k (fun i hi => .inr (by subst hi; exact ⟨by rw [hcb]; exact hc.tag, by rw [h4]; exact hc.pb⟩)), h2.le k.size, fun i hi => h3 i (Nat.lt_of_lt_of_le hi x.size), h4, (fun h => by cases h), ?_, ?_⟩
  · exact ((hc.box.ex x).chg h5 (fun h => h hc.tag)).put 4 (.int .i64 v)
  · exact ((x.chg _).trans (h5.weak (fun i _ hi => .inl hi)) (fun _ _ h => h)).trans (k.weak (fun i _ hi => .inr hi)) (fun _ _ h => h)

set_option maxHeartbeats 12800000 in
theorem rother_8 {w : World} {A : RA} {t : Nat → Tg} {xb : Nat} {F : Fns} {m : MS} (h : Rf w A t xb F m) (n : New w t) {cb : Nat} {cc : CmI} (hc : CbR w A t cb cc 0) {g : Nat} (hg : g < m.gs.length) (hl : (m.at g).stack.length = 16) (hn : m.gs.length < 1024) (a b c : Nat) (hb : b < 16) :
    Calls Tryz.prog 34 #[.pointer (some ⟨xb, 0, none⟩), .int .i64 (g : Nat), .agg #[.int .i64 8, .int .i64 (a : Nat), .int .i64 (b : Nat), .int .i64 (c : Nat)], .pointer (some ⟨cb, 0, none⟩)] w
      fun e w' => e = .returned (.tuple #[]) ∧ REffX w A t xb F cb cc (spawnM m a ((m.at g).val b)) (m.gs.length : Nat) false w' := by
  have H := Lib.hid h
  have N := Lib.hid n
  have HC := Lib.hid hc
  have HG := Lib.hid hg
  have hB := (h.gor g hg).box
  have hK := (h.stk g hg).box
  obtain ⟨rb, rc, hgv, rlt, rcap, rcell⟩ := h.gvat hg
  have c2 : w.cell? ⟨xb, 2, none⟩ = some A.gv := h.box.box.cell 2
  rw [hgv] at c2
  have g4 : w.cell? ⟨A.gb g, 4, none⟩ = some (.slice (some ⟨A.sk g, 0, none⟩) 16 16) := by rw [hB.cell]; rfl
  have s4 : w.cell? ⟨A.sk g, b, none⟩ = some (.int .i64 ((m.at g).val b : Nat)) := by rw [hK.cell]; exact stk_at _ b (by rw [hl]; exact hb)
  have hlt := hB.lt
  have slt := hK.lt
  have xlt := h.box.box.lt
  have clt := hc.box.lt
  obtain ⟨k, hk⟩ : ∃ k, m.gs.length = k := ⟨_, rfl⟩
  obtain ⟨v, hv⟩ : ∃ v, (m.at g).val b = v := ⟨_, rfl⟩
  have KS : Hid (∀ W, Ex w W → Calls Tryz.prog 24 #[.pointer (some ⟨xb, 0, none⟩), .int .i64 (a : Nat), .int .i64 (v : Nat)] W fun e w' => e = .returned (.int .i64 (k : Nat)) ∧ SpawnD W A t xb F (spawnM m a v) w') := Lib.hid (fun W x => by rw [← hk]; exact rspawn_any (h.exs x) (n.le x.size) hn a v)
  have HF : Hid (∀ W w', Ex w W → SpawnD W A t xb F (spawnM m a v) w' → w'.cell? ⟨cb, 4, none⟩ = some (.int .i64 0) ∧ w'.frozen? ⟨cb, 4, none⟩ = false) := Lib.hid (fun W w' x s => by
    obtain ⟨A', t', -, -, -, -, h5⟩ := s
    have := (hc.box.ex x).chg h5 (fun h => h hc.tag)
    exact ⟨this.cell 4, this.soft 4⟩)
  rw [hk] at c2 rcap hn ⊢
  rw [hv] at s4 ⊢
  have i1 : (g : Int) < (k : Int) := by have := HG.out; omega
  have i00 : (0 : Int) ≤ (g : Int) := by omega
  have i2 : ¬ (1024 : Int) ≤ (k : Int) := by omega
  have i3 : (b : Int) < 16 := by omega
  have i4 : (0 : Int) ≤ (b : Int) := by omega
  obtain ⟨gb, hgb⟩ : ∃ gb, A.gb g = gb := ⟨_, rfl⟩
  obtain ⟨sb, hsb⟩ : ∃ sb, A.sk g = sb := ⟨_, rfl⟩
  simp only [hgb, hsb] at rcell g4 s4 hlt slt
  clear h n hc hg hB hK hgv hgb hsb hk hv hl
  go_enter Tryz.func34, Tryz.ntmps34
  go_upto_region 8 with fail
  have x0 := Ex.made w (.cells #[.int .i64 8, .int .i64 (a : Nat), .int .i64 (b : Nat), .int .i64 (c : Nat)] 58)
  have X0 := Lib.hid x0
  clear x0
  go_region_with (go_at_call 24; refine (KS.out _ (X0.out.trans (Ex.drawn _ _))).mono ?_; rintro e w1 ⟨rfl, hR⟩; obtain ⟨u1, u2⟩ := HF.out _ _ (X0.out.trans (Ex.drawn _ _)) hR; have HR := Lib.hid hR; clear hR)
  all_goals
    go_wp2_with fail
    exact Go.Great.bodyPost_end0 rfl rfl ⟨rfl, spawn_effx HC.out (X0.out.trans (Ex.drawn _ _)) HR.out rfl⟩

set_option maxHeartbeats 12800000 in
theorem rother_8f {w : World} {A : RA} {t : Nat → Tg} {xb : Nat} {F : Fns} {m : MS} (h : Rf w A t xb F m) (n : New w t) {cb : Nat} {cc : CmI} (hc : CbR w A t cb cc 0) {g : Nat} (hg : g < m.gs.length) (hn : m.gs.length ≤ 1024) (hf : 1024 ≤ m.gs.length) (a b c : Nat) :
    Calls Tryz.prog 34 #[.pointer (some ⟨xb, 0, none⟩), .int .i64 (g : Nat), .agg #[.int .i64 8, .int .i64 (a : Nat), .int .i64 (b : Nat), .int .i64 (c : Nat)], .pointer (some ⟨cb, 0, none⟩)] w
      fun e w' => e = .returned (.tuple #[]) ∧ REff w A t xb F cb cc m 0 true w' := by
  have H := Lib.hid h
  have N := Lib.hid n
  have HC := Lib.hid hc
  have HG := Lib.hid hg
  obtain ⟨rb, rc, hgv, rlt, rcap, rcell⟩ := h.gvat hg
  have c2 : w.cell? ⟨xb, 2, none⟩ = some A.gv := h.box.box.cell 2
  rw [hgv] at c2
  have v1 : w.cell? ⟨cb, 5, none⟩ = some (.bool false) := hc.box.cell 5
  have v2 := hc.box.soft 5
  have clt := hc.box.lt
  have xlt := h.box.box.lt
  obtain ⟨k, hk⟩ : ∃ k, m.gs.length = k := ⟨_, rfl⟩
  rw [hk] at c2 rcap hn hf
  have i1 : (g : Int) < (k : Int) := by have := HG.out; omega
  have i00 : (0 : Int) ≤ (g : Int) := by omega
  have i2 : (1024 : Int) ≤ (k : Int) := by omega
  clear h n hc hg hgv hk
  go_enter Tryz.func34, Tryz.ntmps34
  go_wp2_with fail
  exact bodyPost_ret (v := .tuple #[]) (by simp [results, Tryz.results34, go_sem]) rfl ⟨rfl, reff_bad H.out N.out HC.out (Ex.refl _) (Ex.made _ _)⟩

end Go.Proofs.YtmlobpapjfkbmaaGreat

/- The document's other: any instruction. -/
namespace Go.Proofs.YtmlobpapjfkbmaaGreat
open Go.RowKit
set_option linter.unusedVariables false
set_option maxRecDepth 20000
set_option linter.unusedSimpArgs false

set_option maxHeartbeats 3200000 in
/-- Any other instruction. -/
theorem roth_any {w : World} {A : RA} {t : Nat → Tg} {xb : Nat} {F : Fns} {gn n : Nat} {m : MS} {g : Nat} (h : Rf w A t xb F (m.put g (x1 m g))) (nw : New w t) {cb : Nat} {cc : CmI} (hc : CbR w A t cb cc 0) (I : Inv F gn n m) (hn : n ≤ 200) (hg : g < m.gs.length) (h1 : m.st.getD g 0 = 1) (hcl : m.clock ≤ 1000000000) (hu : T13.Up m.sleep) {op a b c : Nat} (f : Fit F gn op a b c) (hp : ¬ isPl op) :
    Calls Tryz.prog 34 #[.pointer (some ⟨xb, 0, none⟩), .int .i64 (g : Nat), .agg #[.int .i64 (op : Nat), .int .i64 (a : Nat), .int .i64 (b : Nat), .int .i64 (c : Nat)], .pointer (some ⟨cb, 0, none⟩)] w
      fun e w' => e = .returned (.tuple #[]) ∧ REffX w A t xb F cb cc (opB m g op a b c) (opV m g op a b c) (opBad m g op a b c) w' := by
  have e := put_at hg (x1 m g)
  have hg1 : g < (m.put g (x1 m g)).gs.length := by rw [gs_put]; exact hg
  have hn1 : (m.put g (x1 m g)).gs.length ≤ 1024 := by rw [gs_put]; exact I.g1k
  have hl1 : ((m.put g (x1 m g)).at g).stack.length = 16 := by rw [e]; exact (I.stk g hg).1
  have hw1 : ∀ i, ((m.put g (x1 m g)).wait.getD i []).length ≤ 100000 := fun i => Nat.le_trans (I.wt i) (by omega)
  have eB : opBad m g op a b c = false → opB m g op a b c = opM m g op a b c := fun h => if_neg (by rw [h]; simp)
  have hfl : ∀ i, ∀ x ∈ m.wait.getD i [], x ∈ m.sleep.map (fun p => p.2.1.toNat) ++ m.wait.flatten := fun i x hx => by
    refine List.mem_append_right _ (List.mem_flatten.2 ⟨m.wait.getD i [], ?_, hx⟩)
    by_cases hi : i < m.wait.length
    · rw [List.getD_eq_getElem?_getD, List.getElem?_eq_getElem hi]; exact List.getElem_mem hi
    · rw [List.getD_eq_getElem?_getD, List.getElem?_eq_none (by omega)] at hx; cases hx
  have hcases : op = 0 ∨ op = 8 ∨ op = 9 ∨ op = 10 ∨ op = 11 ∨ op = 12 := by
    clear f h hc nw I
    unfold isPl at hp
    by_cases h0 : op = 0
    · exact .inl h0
    · by_cases h8 : op = 8
      · exact .inr (.inl h8)
      · by_cases h9 : op = 9
        · exact .inr (.inr (.inl h9))
        · by_cases h10 : op = 10
          · exact .inr (.inr (.inr (.inl h10)))
          · by_cases h11 : op = 11
            · exact .inr (.inr (.inr (.inr (.inl h11))))
            · by_cases h12 : op = 12
              · exact .inr (.inr (.inr (.inr (.inr h12))))
              · exact absurd ⟨h0, h8, h9, h10, h11, h12⟩ hp
  obtain ⟨ho, f1, f2, f3, f4, f5, f6, f7, f8, f9, f10, f11, f12⟩ := f
  rcases hcases with rfl | rfl | rfl | rfl | rfl | rfl
  · refine (rother_0 h nw hc hg1 hn1 a b c).mono ?_
    rintro e' w' ⟨rfl, k⟩
    rw [eB rfl]; exact ⟨rfl, k.x⟩
  · by_cases q : m.gs.length < 1024
    · have hb : opBad m g 8 a b c = false := decide_eq_false (by omega)
      have k := rother_8 h nw hc hg1 hl1 (by rw [gs_put]; exact q) a b c (f2 (by omega))
      rw [e, gs_put] at k
      have e1 : opM m g 8 a b c = spawnM (m.put g (x1 m g)) a ((x1 m g).val b) := if_pos q
      have e2 : opV m g 8 a b c = (m.gs.length : Int) := if_pos q
      rw [eB hb, e1, e2, hb]; exact k
    · have hb : opBad m g 8 a b c = true := decide_eq_true (by omega)
      refine (rother_8f h nw hc hg1 hn1 (by rw [gs_put]; omega) a b c).mono ?_
      rintro e' w' ⟨rfl, k⟩
      have e1 : opB m g 8 a b c = m.put g (x1 m g) := if_pos hb
      have e2 : opV m g 8 a b c = 0 := if_neg q
      rw [e1, e2, hb]; exact ⟨rfl, k.x⟩
  · refine (rother_9 h nw hc hg1 hn1 a b c).mono ?_
    rintro e' w' ⟨rfl, k⟩
    rw [eB rfl]; exact ⟨rfl, k.x⟩
  · refine (rother_10 h nw hc hg1 hn1 a b c (f8 rfl).1 (f8 rfl).2 (Nat.le_trans I.sl (by omega)) hu hcl).mono ?_
    rintro e' w' ⟨rfl, k⟩
    rw [eB rfl]; exact ⟨rfl, k.x⟩
  · refine (rother_11 h nw hc hg1 hn1 a b c (f9 (by omega)) hw1 (fun i _ => ?_)).mono ?_
    · rw [Bool.eq_false_iff]
      intro hm
      have hm : (m.wait.getD i []).contains g = true := hm
      exact I.s.lone (g := g) (by omega) (hfl i g (by simpa using hm))
    · rintro e' w' ⟨rfl, k⟩
      rw [eB rfl]; exact ⟨rfl, k.x⟩
  · refine (rother_12 h nw hc hg1 hn1 a b c (f9 (by omega)) hw1 (fun x l hx => ?_)).mono ?_
    · rw [gs_put, ← I.st]
      have hx : m.wait.getD a [] = x :: l := hx
      exact (I.s.mem x (hfl a x (by rw [hx]; simp))).1
    · rintro e' w' ⟨rfl, k⟩
      have e1 : (wakeV (m.put g (x1 m g)) a).1 = opM m g 12 a b c := by
        unfold wakeV opM
        rw [show (m.put g (x1 m g)).wait = m.wait from rfl]
        cases m.wait.getD a [] <;> rfl
      have e2 : (wakeV (m.put g (x1 m g)) a).2 = opV m g 12 a b c := by
        unfold wakeV opV
        rw [show (m.put g (x1 m g)).wait = m.wait from rfl]
        cases m.wait.getD a [] <;> rfl
      rw [e1, e2] at k
      rw [eB rfl]; exact ⟨rfl, k.x⟩

end Go.Proofs.YtmlobpapjfkbmaaGreat

/- The document's Tick. -/
namespace Go.Proofs.YtmlobpapjfkbmaaGreat
open Go.RowKit
set_option linter.unusedVariables false
set_option maxRecDepth 20000
set_option linter.unusedSimpArgs false

def setL (st : List Nat) (l : List Nat) : List Nat := l.foldl (fun s g => s.set g 1) st
theorem setL_take (st l : List Nat) (i g : Nat) (hi : i < l.length) (hg : l.getD i 0 = g) : (setL st (l.take i)).set g 1 = setL st (l.take (i + 1)) := by
  have : l.take (i + 1) = l.take i ++ [g] := by
    rw [List.take_add_one, ← hg]; simp [hi]
  rw [this]
  unfold setL
  rw [List.foldl_append]; rfl
theorem wakeL_set : ∀ (D : List Nat) (st : List Nat), D.Nodup → (∀ g ∈ D, g < st.length ∧ st.getD g 0 = 3) → wakeL st D = setL st D
  | [], st, _, _ => rfl
  | g :: D, st, nd, h => by
    obtain ⟨h1, h2⟩ := h g (List.mem_cons_self ..)
    rw [List.nodup_cons] at nd
    show wakeL (moveS st g 1) D = setL (st.set g 1) D
    rw [wake_one h1 h2]
    exact wakeL_set D (st.set g 1) nd.2 (fun i hi => by
      obtain ⟨q1, q2⟩ := h i (List.mem_cons_of_mem _ hi)
      refine ⟨by rw [List.length_set]; exact q1, ?_⟩
      have hne : i ≠ g := fun e => nd.1 (e ▸ hi)
      rw [getD_set _ _ _ _ h1, if_neg hne]; exact q2)
theorem woke_ok {st : List Nat} {S : List T13.T3} {W : List (List Nat)} (h : SInv st S W) (now : Int) : ((T13.dueS now S).map (fun p => p.2.1.toNat)).Nodup ∧ ∀ g ∈ (T13.dueS now S).map (fun p => p.2.1.toNat), g < st.length ∧ st.getD g 0 = 3 := by
  refine ⟨?_, (h.tick now).2.2.2⟩
  have pm : ((T13.dueS now S).map (fun p => p.2.1.toNat) ++ ((T13.leftS now S).map (fun p => p.2.1.toNat) ++ W.flatten)).Perm (S.map (fun p => p.2.1.toNat) ++ W.flatten) := by
    rw [← List.append_assoc, ← List.map_append]
    exact ((due_left now S).map _).append_right _
  have nd := pm.nodup_iff.2 h.nd
  rw [List.nodup_append] at nd
  exact nd.1
theorem Up.left {S : List T13.T3} (h : T13.Up S) (now : Int) : T13.Up (T13.leftS now S) := List.Pairwise.filter _ h

/-- Some sleepers are gone. -/
theorem Rf.slept0 {w w' : World} {A : RA} {t : Nat → Tg} {xb : Nat} {F : Fns} {m : MS} (h : Rf w A t xb F m) {v' : Value} {S : List T13.T3} (hr : T13.Rt w' xb 5 v' S) (hb : ∀ g, v'.ownBlock = some g → A.tv.ownBlock = some g) (hx : T13.Chx xb 5 w w') (k : Nat) :
    Rf w' { A with tv := v' } t xb F { m with sleep := S, k := k } := by
  obtain ⟨hc, hw⟩ := hx
  obtain ⟨u, hu⟩ := hw _ _ h.box.box
  have eu : u = v' := by
    have h1 := hu.cell 5
    rw [hr.cell] at h1
    have h2 : (rcells { A with tv := u } m.clock)[5]? = some u := rfl
    rw [rcells_tv, h2] at h1
    exact (Option.some.inj h1).symm
  subst eu
  rw [rcells_tv] at hu
  exact h.timers (P := fun i => i = xb) u k S hu (by
    rcases hr.row with q | ⟨g, off, cap, q1, q2, -, q3, q4⟩
    · exact .inl q
    · exact .inr ⟨g, off, cap, q1, q2, q3, q4⟩) (fun b e => h.tmt b (hb b e)) hc (by
    rintro i rfl
    left
    rw [h.box.tag]; simp)
theorem rsleep_due {w : World} {A : RA} {t : Nat → Tg} {xb : Nat} {F : Fns} {m : MS} (h : Rf w A t xb F m) (hS : m.sleep.length ≤ 200) (hu : T13.Up m.sleep) (hsl : ∀ p ∈ m.sleep, ∃ g : Nat, p.2.1 = (g : Int)) (now : Int) {D : List Nat} (hD : (T13.dueS now m.sleep).map (fun p => p.2.1.toNat) = D) :
    Calls Tryz.prog 27 #[.pointer (some ⟨xb, 5, none⟩), .int .i64 now] w
      fun e w' => ∃ u, e = .returned u ∧ w'.ownsRow w.heap.size 3 1 u D.length (S12.ints D) ∧ (∃ v, Rf w' { A with tv := v } t xb F { m with sleep := T13.leftS now m.sleep }) ∧ Chg (fun i => i = xb) w w' := by
  refine (T13.rdue_any h.rt hS now).mono ?_
  rintro e w' ⟨u, rfl, r1, ⟨v', hr, hb⟩, hx⟩
  rw [T13.rdueL_is now hu] at r1 hr
  have hz : ∀ y ∈ (T13.dueS now m.sleep).map (fun p => p.2.1), ∃ g : Nat, y = (g : Int) := by
    intro y hy
    obtain ⟨p, hp, rfl⟩ := List.mem_map.1 hy
    exact hsl p (List.mem_filter.1 hp).1
  have ez : ((T13.dueS now m.sleep).map (fun p => p.2.1)).map Int.toNat = D := by rw [List.map_map, ← hD]; rfl
  dsimp only at r1 hr
  rw [intsZ_nat _ hz, ez] at r1
  have el : ((T13.dueS now m.sleep).map (fun p => p.2.1)).length = D.length := by rw [← ez, List.length_map, List.length_map, List.length_map]
  rw [el] at r1
  exact ⟨u, rfl, r1, ⟨v', h.slept0 hr hb hx m.k⟩, hx.1⟩

set_option maxHeartbeats 12800000 in
theorem rtick_any {w : World} {A : RA} {t : Nat → Tg} {xb : Nat} {F : Fns} {gn n : Nat} {m : MS} (h : Rf w A t xb F m) (nw : New w t) (I : Inv F gn n m) (hn : n ≤ 200) (hu : T13.Up m.sleep) (hc : m.clock ≤ 1000000000) (n1 : Int) (k : Nat) (hn1 : n1 ≤ 1000000000) (hk : n1.toNat = k) :
    Calls Tryz.prog 11 #[.pointer (some ⟨xb, 0, none⟩), .int .i64 n1] w fun e w' => (∃ u, e = .returned u ∧ w'.ownsRow w.heap.size 3 1 u (wokeM m k).length (S12.ints (wokeM m k))) ∧ SpawnD w A t xb F (tickM m k) w' := by
  have c7 : w.cell? ⟨xb, 38, none⟩ = some (.int .i64 (m.clock : Nat)) := h.box.box.cell 38
  have f7 := h.box.box.soft 38
  have xlt := h.box.box.lt
  have e1 : IntKind.i64.wrap ((m.clock : Int) + max n1 0) = ((m.clock + k : Nat) : Int) := by rw [IntKind.wrap_i64]; omega
  obtain ⟨w1, w2⟩ := woke_ok I.s ((m.clock + k : Nat) : Int)
  have hwk : (T13.dueS ((m.clock + k : Nat) : Int) m.sleep).map (fun p => p.2.1.toNat) = wokeM m k := rfl
  rw [hwk] at w1 w2
  have hT : tickM m k = { m with clock := m.clock + k, sleep := T13.leftS ((m.clock + k : Nat) : Int) m.sleep, st := setL m.st (wokeM m k) } := by unfold tickM; rw [wakeL_set _ _ w1 w2]
  rw [hT]
  have hl : (wokeM m k).length ≤ 900 := by
    unfold wokeM T13.dueS
    rw [List.length_map]
    have := List.length_filter_le (fun p : T13.T3 => decide (p.1 ≤ ((m.clock + k : Nat) : Int))) m.sleep
    have := I.sl
    omega
  obtain ⟨cc, hcc⟩ : ∃ cc, m.clock + k = cc := ⟨_, rfl⟩
  rw [hcc] at e1 hwk ⊢
  obtain ⟨l, hl2⟩ : ∃ l, wokeM m k = l := ⟨_, rfl⟩
  rw [hl2] at hwk hl w2 ⊢
  obtain ⟨W1, hW1⟩ : ∃ W1, W1 = w.setCell ⟨xb, 38, none⟩ (.int .i64 (cc : Nat)) := ⟨_, rfl⟩
  have k1 : Chg (fun i => i = xb) w W1 := hW1 ▸ Chg.cell (F := fun i => i = xb) w ⟨xb, 38, none⟩ _ rfl
  have b1 : Box W1 xb (rcells A cc) 48 := by rw [hW1]; exact h.box.box.put 38 (.int .i64 (cc : Nat))
  have h1 : Rf W1 A t xb F { m with clock := cc } := h.tick (P := fun i => i = xb) cc b1 k1 (by rintro i rfl; left; rw [h.box.tag]; simp)
  have KD : Hid (∀ W2, Ex W1 W2 → Calls Tryz.prog 27 #[.pointer (some ⟨xb, 5, none⟩), .int .i64 (cc : Nat)] W2 fun e w' => ∃ u, e = .returned u ∧ w'.ownsRow W2.heap.size 3 1 u l.length (S12.ints l) ∧ (∃ v, Rf w' { A with tv := v } t xb F { m with clock := cc, sleep := T13.leftS (cc : Nat) m.sleep }) ∧ Chg (fun i => i = xb) W2 w') :=
    Lib.hid (fun W2 x => rsleep_due (h1.exs x) (Nat.le_trans I.sl hn) hu I.s.slp (cc : Nat) hwk)
  have HB : Hid (∀ W2, Ex W1 W2 → W2.cell? ⟨xb, 38, none⟩ = some (.int .i64 (cc : Nat))) := Lib.hid (fun W2 x => (b1.ex x).cell 38)
  have HW2 : Hid (∀ g ∈ l, g < m.gs.length) := Lib.hid (fun g hg => by rw [← I.st]; exact (w2 g hg).1)
  have HK1 := Lib.hid k1
  have HW1 := Lib.hid hW1
  have HA := Lib.hid h
  have HN := Lib.hid nw
  have H1k := Lib.hid I.g1k
  obtain ⟨ll, hll⟩ : ∃ k, l.length = k := ⟨_, rfl⟩
  rw [hll] at hl KD ⊢
  have HLL := Lib.hid hll
  have xlt1 : xb < W1.heap.size := Nat.lt_of_lt_of_le xlt k1.size
  clear h nw I hu hT w1 w2 hwk hcc hl2 k1 b1 h1 hll hW1 hk
  go_enter Tryz.func11, Tryz.ntmps11
  go_upto_region 2 with fail
  rw [← HW1.out]
  have c8 := HB.out _ (Ex.refl _)
  have q8 := HB.out _ (ex_drw W1)
  go_region_with (go_at_call 27; refine (KD.out _ (ex_drw W1)).mono ?_; rintro e w2 ⟨u, rfl, hrow, ⟨v, hrf⟩, hchg⟩; obtain ⟨ua, uc, rfl⟩ := T13.row_val hrow; have HD1 := Lib.hid hrf; have HD3 := Lib.hid hchg; have HR := Lib.hid hrow; clear hrf hchg hrow)
  all_goals
    have HU : Hid (∀ b, (Value.slice ua ll uc).ownBlock = some b → (t b).1 = 0 ∧ b ≠ xb) := Lib.hid (fun b hb => by
      rcases row_shape HR.out with ⟨h1, -⟩ | ⟨g, cap, h1, h2, -⟩
      · rw [h1] at hb; cases hb
      · rw [h1] at hb; cases hb
        have h2 : W1.drew.heap.size ≤ g := h2
        have := (ex_drw W1).size
        have := HK1.out.size
        have hg2 : w.heap.size ≤ g := by omega
        refine ⟨HN.out g hg2, fun e => ?_⟩
        have e : g = xb := e
        have := HA.out.box.box.lt
        omega)
    clear KD c8 q8 c7 f7
    go_wp2_with fail
    go_loopw [6] (fun i W2 => ∃ j : Nat, j ≤ ll ∧ i = .int .i64 j ∧ Rf W2 { A with tv := v } t xb F { m with clock := cc, sleep := T13.leftS (cc : Nat) m.sleep, st := setL m.st (l.take j) } ∧ Chg (fun i => (t i).1 ≠ 0) w2 W2) (fun i _ => ll - (intOf i).toNat)
    case atStart => exact ⟨0, Nat.zero_le _, rfl, HD1.out, Chg.refl _ _⟩
    case round =>
      obtain ⟨j, hj, rfl, hR, hC⟩ := hrel
      have R2 := row_chg HR.out hC (fun b hb e => e (HU.out b hb).1)
      have HRf := Lib.hid hR
      have HCh := Lib.hid hC
      clear hR hC
      by_cases hlt : j < ll
      · obtain ⟨g, hg⟩ : ∃ g, l.getD j 0 = g := ⟨_, rfl⟩
        rcases row_shape R2 with ⟨h1, h2, h3⟩ | ⟨ab, cap, hav, h2, h3, h4, h5⟩
        · omega
        injection hav with e1 _ e2
        subst e1; subst e2
        have hjl : j < l.length := by rw [HLL.out]; exact hlt
        have ca : wr.cell? ⟨ab, j, none⟩ = some (.int .i64 (g : Nat)) := by
          rw [R2.cellAt j (by omega), ← hg]
          simp [S12.ints, hjl]
        have hgl : g < m.gs.length := HW2.out g (by rw [← hg, List.getD_eq_getElem?_getD, List.getElem?_eq_getElem hjl]; exact List.getElem_mem hjl)
        have HGL := Lib.hid hgl
        obtain ⟨rb, rc, hgv0, rlt, rcap0, rcell0⟩ := HRf.out.gvat (g := g) hgl
        have hgv : A.gv = .slice (some ⟨rb, 0, none⟩) m.gs.length rc := hgv0
        have c2 : wr.cell? ⟨xb, 2, none⟩ = some A.gv := HRf.out.box.box.cell 2
        rw [hgv] at c2
        have hB := (HRf.out.gor g hgl).box
        have rcell : wr.cell? ⟨rb, g, none⟩ = some (.pointer (some ⟨A.gb g, 0, none⟩)) := rcell0
        have f0 : wr.frozen? ⟨A.gb g, 0, none⟩ = false := hB.soft 0
        have glt : A.gb g < wr.heap.size := hB.lt
        have g0 : wr.cell? ⟨A.gb g, 0, none⟩ = some (.int .i64 ((setL m.st (l.take j)).getD g 0 : Nat)) := hB.cell 0
        have hw := Lib.hid (setL_take m.st l j g hjl hg)
        obtain ⟨k, hk⟩ : ∃ k, m.gs.length = k := ⟨_, rfl⟩
        have rcap : m.gs.length ≤ rc := rcap0
        rw [hk] at c2 rcap hgl
        have hk1k := H1k.out
        rw [hk] at hk1k
        obtain ⟨gb, hgb⟩ : ∃ gb, A.gb g = gb := ⟨_, rfl⟩
        rw [hgb] at rcell g0 f0 glt
        have i1 : (g : Int) < (k : Int) := by omega
        have i0 : (0 : Int) ≤ (g : Int) := by omega
        have j1 : (j : Int) < (ll : Int) := by omega
        have j0 : (0 : Int) ≤ (j : Int) := by omega
        have HGB := Lib.hid hgb
        clear R2 hg h3 h5 hB hgv hk hgb hjl hgv0 rcap0 rcell0
        go_upto_region 6 with fail
        go_region
        go_wp2
        go_roundw
        case rel =>
          obtain ⟨R1, k1⟩ := rf_st (W := wr.drew) (w' := (wr.drew).setCell ⟨A.gb g, 0, none⟩ (.int .i64 (1 : Nat))) HRf.out HGL.out 1 (ex_drw wr) (Ex.refl _)
          obtain rfl := HGB.out
          rw [show ({ ({ m with clock := cc, sleep := T13.leftS (cc : Nat) m.sleep, st := setL m.st (l.take j) } : MS) with st := (setL m.st (l.take j)).set g 1 } : MS) = { m with clock := cc, sleep := T13.leftS (cc : Nat) m.sleep, st := setL m.st (l.take (j + 1)) } by rw [hw.out]] at R1
          have tg := (HA.out.gor g HGL.out).tag
          exact ⟨j + 1, by omega, by go_num, R1, HCh.out.trans (k1.weak (by rintro i - rfl; show (t (A.gb g)).1 ≠ 0; rw [tg]; simp)) (fun _ _ h => h)⟩
        case measure => simp [intOf]; omega
      · obtain rfl : j = ll := by omega
        have e3 : ¬ ((j : Int) < (j : Int)) := by omega
        clear R2
        go_wp2_with fail
        go_ret
        have hN : New wr t := HN.out.le (Nat.le_trans (Nat.le_trans HK1.out.size (ex_drw W1).size) (Nat.le_trans HD3.out.size HCh.out.size))
        have tx := HA.out.box.tag
        have kx : ∀ i, i = xb → (t i).1 ≠ 0 := by rintro i rfl; rw [tx]; simp
        have c1 : Chg (fun i => (t i).1 ≠ 0) w wr := (((HK1.out.weak (fun i _ hi => kx i hi)).ex (ex_drw W1)).trans (HD3.out.weak (fun i _ hi => kx i hi)) (fun _ _ h => h)).trans HCh.out (fun _ _ h => h)
        have R3 := HRf.out
        rw [show l.take j = l by rw [← HLL.out, List.take_length]] at R3
        exact ⟨⟨_, rfl, row_low (row_chg HR.out HCh.out (fun b hb e => e (HU.out b hb).1)) (Nat.le_trans HK1.out.size (ex_drw W1).size)⟩, _, t, R3, hN, fun _ _ => rfl, rfl, c1⟩

end Go.Proofs.YtmlobpapjfkbmaaGreat

/- The document's Stuck. -/
namespace Go.Proofs.YtmlobpapjfkbmaaGreat
open Go.RowKit
set_option linter.unusedVariables false
set_option maxRecDepth 20000
set_option linter.unusedSimpArgs false

theorem any_take (st : List Nat) (j : Nat) (hj : j < st.length) (p : Nat → Bool) : (st.take (j + 1)).any p = ((st.take j).any p || p (st.getD j 0)) := by
  rw [List.take_add_one, List.any_append]
  simp [hj]
theorem all_take (st : List Nat) (j : Nat) (hj : j < st.length) (p : Nat → Bool) : (st.take (j + 1)).all p = ((st.take j).all p && p (st.getD j 0)) := by
  rw [List.take_add_one, List.all_append]
  simp [hj]
theorem tv_val {w : World} {v : Value} {S : List T13.T3} (h : Tv w v S) : ∃ a c, v = .slice a S.length c := by
  rcases h with ⟨rfl, rfl⟩ | ⟨g, off, cap, rfl, -⟩
  · exact ⟨none, 0, rfl⟩
  · exact ⟨_, _, rfl⟩

set_option maxHeartbeats 6400000 in
theorem rstuck_any {w : World} {A : RA} {t : Nat → Tg} {xb : Nat} {F : Fns} {m : MS} (h : Rf w A t xb F m) (hgs : m.gs.length ≤ 1024) (hS : m.sleep.length ≤ 100000) :
    Calls Tryz.prog 38 #[.pointer (some ⟨xb, 0, none⟩)] w fun e w' => e = .returned (.bool (stuckD m)) ∧ w = w' := by
  have c2 : w.cell? ⟨xb, 2, none⟩ = some A.gv := h.box.box.cell 2
  have c5 : w.cell? ⟨xb, 5, none⟩ = some A.tv := h.box.box.cell 5
  have xlt := h.box.box.lt
  obtain ⟨va, vc, hgv⟩ := T13.row_val h.grow.row
  obtain ⟨ta, tc, htv⟩ := tv_val h.tm
  rw [hgv] at c2
  rw [htv] at c5
  have HH := Lib.hid h
  have HSL := Lib.hid h.sl
  obtain ⟨k, hk⟩ : ∃ k, m.gs.length = k := ⟨_, rfl⟩
  obtain ⟨sn, hsn⟩ : ∃ k, m.sleep.length = k := ⟨_, rfl⟩
  have HGV : Hid (∀ g, g < k → ∃ b, va = some ⟨b, 0, none⟩ ∧ b < w.heap.size ∧ k ≤ vc ∧ w.cell? ⟨b, g, none⟩ = some (.pointer (some ⟨A.gb g, 0, none⟩)) ∧ w.cell? ⟨A.gb g, 0, none⟩ = some (.int .i64 (m.st.getD g 0 : Nat)) ∧ A.gb g < w.heap.size) := Lib.hid (fun g hg => by
    obtain ⟨rb, rc, e, r1, r2, r3⟩ := h.gvat (g := g) (by omega)
    rw [hgv] at e
    injection e with e1 _ e2
    have hB := (h.gor g (by omega)).box
    exact ⟨rb, e1, r1, by omega, r3, by rw [hB.cell]; rfl, hB.lt⟩)
  rw [hk] at c2 hgs
  rw [hsn] at c5 hS
  have HK : Hid (m.st.length = k) := Lib.hid (h.sl.trans hk)
  have HSN := Lib.hid hsn
  clear h hgv htv hk hsn
  go_enter Tryz.func38, Tryz.ntmps38
  go_wp2_with fail
  go_loop [3, 4] (fun bv iv => ∃ (j : Nat) (b : Bool), j ≤ k ∧ iv = .int .i64 j ∧ bv = .bool b ∧ (m.st.take j).any (fun s => s == 3) = b ∧ (m.st.take j).all (fun s => s != 1) = true) (fun _ iv => k - (intOf iv).toNat)
  case atStart => exact ⟨0, false, Nat.zero_le _, rfl, rfl, rfl, rfl⟩
  case round =>
    obtain ⟨j, b, hj, rfl, rfl, hb, ha⟩ := hrel
    have HBB := Lib.hid hb
    have HAA := Lib.hid ha
    clear hb ha
    by_cases hlt : j < k
    · obtain ⟨rb, rfl, r1, r2, r3, r4, r5⟩ := HGV.out j hlt
      obtain ⟨s, hs⟩ : ∃ s, m.st.getD j 0 = s := ⟨_, rfl⟩
      rw [hs] at r4
      have j0 : (0 : Int) ≤ (j : Int) := by omega
      have j1 : (j : Int) < (k : Int) := by omega
      have ea := any_take m.st j (by rw [HK.out]; exact hlt) (fun s => s == 3)
      have el := all_take m.st j (by rw [HK.out]; exact hlt) (fun s => s != 1)
      rw [HBB.out, hs] at ea
      rw [HAA.out, hs] at el
      have HEA := Lib.hid ea
      have HEL := Lib.hid el
      clear ea el hs
      by_cases h1 : s = 1
      · subst h1
        have HD : Hid (stuckD m = false) := Lib.hid (by
          have e : m.st.all (fun s => s != 1) = false := by
            have h2 := HEL.out
            rw [Bool.eq_false_iff]
            intro q
            rw [List.all_eq_true] at q
            have : (m.st.take (j + 1)).all (fun s => s != 1) = true := List.all_eq_true.2 (fun x hx => q x (List.mem_of_mem_take hx))
            rw [this] at h2; simp at h2
          unfold stuckD
          rw [e]; rfl)
        rw [show ((1 : Nat) : Int) = 1 from rfl] at r4
        go_wp2_with fail
        go_ret
        exact ⟨by rw [HD.out]; rfl, rfl⟩
      · have d1 : ((s : Int) == 1) = false := by simp; omega
        have HAll : Hid ((m.st.take (j + 1)).all (fun s => s != 1) = true) := Lib.hid (by rw [HEL.out]; simp [h1])
        cases b with
        | true =>
          go_wp2_with fail
          go_round
          case rel => exact ⟨j + 1, true, by omega, by go_num, rfl, by rw [HEA.out]; rfl, HAll.out⟩
          case measure => simp [intOf]; omega
        | false =>
          by_cases h3 : s = 3
          · subst h3
            rw [show ((3 : Nat) : Int) = 3 from rfl] at r4
            go_wp2_with fail
            go_round
            case rel => exact ⟨j + 1, true, by omega, by go_num, rfl, by rw [HEA.out]; rfl, HAll.out⟩
            case measure => simp [intOf]; omega
          · have d3 : ((s : Int) == 3) = false := by simp; omega
            go_wp2_with fail
            go_round
            case rel => exact ⟨j + 1, false, by omega, by go_num, rfl, by rw [HEA.out]; simpa using h3, HAll.out⟩
            case measure => simp [intOf]; omega
    · obtain rfl : j = k := by omega
      have e3 : ¬ ((j : Int) < (j : Int)) := by omega
      have et : m.st.take j = m.st := by rw [← HK.out, List.take_length]
      have hb := HBB.out
      have ha := HAA.out
      rw [et] at hb ha
      have HD : Hid (stuckD m = (b && decide (sn = 0))) := Lib.hid (by
        unfold stuckD
        rw [ha, hb, HSN.out]
        cases b <;> rfl)
      clear HBB HAA hb ha et
      cases b with
      | false =>
        go_wp2_with fail
        go_ret
        exact ⟨by rw [HD.out]; rfl, rfl⟩
      | true =>
        by_cases h0 : sn = 0
        · subst h0
          go_wp2_with fail
          go_ret
          exact ⟨by rw [HD.out]; rfl, rfl⟩
        · have d0 : ((sn : Int) == 0) = false := by simp; omega
          go_wp2_with fail
          go_ret
          exact ⟨by rw [HD.out]; simp [h0], rfl⟩

end Go.Proofs.YtmlobpapjfkbmaaGreat

