/- Part 18 of what is proved of the program of layer 16: RNew16, RDo16, RReach16, RDoN16. -/
import Derived.Test.YtmlobpapjfkbmaaGreatK17
import Derived.Test.YtmlobpapjfkbmaaGreatK12
import Derived.Test.YtmlobpapjfkbmaaGreatK11
import Derived.Test.YtmlobpapjfkbmaaGreatK16
import Derived.Test.YtmlobpapjfkbmaaGreatK15
import Derived.Test.YtmlobpapjfkbmaaGreatK13
/- The document's model at its beginning. -/
namespace Go.Proofs.YtmlobpapjfkbmaaGreat
open Go.RowKit
set_option linter.unusedVariables false
set_option maxRecDepth 20000
set_option linter.unusedSimpArgs false

/-- Where a new model's parts lie. -/
def rnewA (gn : Nat) (fv : Value) (gb pb : Nat) : RA := ⟨.slice none 0 0, .slice (some ⟨gb, 0, none⟩) gn gn, .slice none 0 0, .slice none 0 0, fun _ => 0, fun _ => 0, fun _ => .slice none 0 0, fun _ => .slice none 0 0, (gn : Nat), fv, pb⟩
/-- A model that is new: nothing that was is its. -/
def NewD (pb : Nat) (w : World) (xb gn : Nat) (F : Fns) (w' : World) : Prop :=
  ∃ A t, Rf w' A t xb F (m0 gn) ∧ New w' t ∧ A.pb = pb ∧ (∀ i, i < w.heap.size → t i = (0, 0)) ∧ Ex w w'
theorem new_rf {w Y : World} {gn gb : Nat} {fv : Value} {F : Fns} {w0 : World} (hF : C15.RdP w0 fv F) (x0 : Ex w0 w) (hg : gn ≤ 32) (xy : Ex w Y) (hgb : w.heap.size ≤ gb) (hgl : Box Y gb (S12.ints (List.replicate gn 0)).toArray 3) :
    ∃ A t, Rf (Y.alloc (.cells (rcells (rnewA gn fv gb w0.heap.size) 0) 48)) A t Y.heap.size F (m00 gn) ∧ New (Y.alloc (.cells (rcells (rnewA gn fv gb w0.heap.size) 0) 48)) t ∧ A.pb = w0.heap.size ∧ (∀ i, i < w.heap.size → t i = (0, 0)) := by
  have x := Ex.made Y (.cells (rcells (rnewA gn fv gb w0.heap.size) 0) 48)
  have bm := Box.fresh Y (rcells (rnewA gn fv gb w0.heap.size) 0) 48
  have hsz : (Y.alloc (.cells (rcells (rnewA gn fv gb w0.heap.size) 0) 48)).heap.size = Y.heap.size + 1 := by simp
  have hw := xy.size
  have glt := hgl.lt
  have bg := hgl.ex x
  have xw := xy.trans x
  generalize (Y.alloc (.cells (rcells (rnewA gn fv gb w0.heap.size) 0) 48)) = Z at *
  obtain ⟨T, hT⟩ : ∃ T : Nat → Tg, T = fun i => if i = Y.heap.size then (1, 0) else if i = gb then (5, 0) else (0, 0) := ⟨_, rfl⟩
  have T1 : T Y.heap.size = (1, 0) := by rw [hT]; simp
  have T5 : T gb = (5, 0) := by rw [hT]; simp [show gb ≠ Y.heap.size by omega]
  have T0 : ∀ i, i < w.heap.size ∨ Y.heap.size < i → T i = (0, 0) := fun i hi => by
    rw [hT]; simp [show i ≠ Y.heap.size by omega, show i ≠ gb by omega]
  clear hT
  refine ⟨rnewA gn fv gb w0.heap.size, T, ?_, ?_, rfl, fun i hi => T0 i (.inl hi)⟩
  · have er : (List.replicate gn 0).length = gn := by simp
    refine ⟨⟨bm, T1⟩, rfl, ⟨World.ownsRow_nil _ _ _ _, fun b e => by cases e⟩, fun i hi => absurd hi (Nat.not_lt_zero _), fun i hi => absurd hi (Nat.not_lt_zero _), ⟨?_, fun b e => by cases e; exact T5⟩, ⟨World.ownsRow_nil _ _ _ _, fun b e => by cases e⟩, ?_, .inl ⟨rfl, rfl⟩, (fun b e => by cases e), ?_, (fun i _ b e => by cases e), by simp [m00], ?_⟩
    · rw [show (m00 gn).globals.length = gn from er]
      exact row_box bg (by show (S12.ints (List.replicate gn 0)).length = gn; simp [S12.ints]) (by omega)
    · intro i h1 hi
      have : i < 1 := hi
      omega
    · intro i hi
      have e : (m00 gn).wat i = [] := by show (List.replicate 32 ([] : List Nat)).getD i [] = []; rw [List.getD_eq_getElem?_getD, List.getElem?_replicate, if_pos hi]; rfl
      rw [e]
      exact Rn.of (B := 0) (World.ownsRow_nil _ _ _ _)
    · intro W hW
      refine hF.ex ?_
      have c1 := ((x0.trans xw).chg (fun _ => False)).trans hW (fun i hi hf => ?_)
      · exact c1.below (Nat.le_refl _) (fun i hi => hi.elim)
      · have h0 := x0.size
        rcases hf with hf | hf
        · rw [T0 i (.inl (by omega))] at hf; exact hf rfl
        · exact absurd hf (Nat.not_le.2 hi)
  · intro i hi
    have := T0 i (.inr (by omega))
    rw [this]
theorem new_rspawn {w Y : World} {gn gb : Nat} {fv : Value} {F : Fns} {w0 : World} (hF : C15.RdP w0 fv F) (x0 : Ex w0 w) (hg : gn ≤ 32) (xy : Ex w Y) (hgb : w.heap.size ≤ gb) (hgl : Box Y gb (S12.ints (List.replicate gn 0)).toArray 3) {W : World} (z : Ex (Y.alloc (.cells (rcells (rnewA gn fv gb w0.heap.size) 0) 48)) W) :
    Calls Tryz.prog 24 #[.pointer (some ⟨Y.heap.size, 0, none⟩), .int .i64 0, .int .i64 0] W fun e w' => e = .returned (.int .i64 0) ∧ NewD w0.heap.size w Y.heap.size gn F w' := by
  obtain ⟨A, t, h1, h2, h3, h4⟩ := new_rf hF x0 hg xy hgb hgl
  refine (rspawn_any (h1.exs z) (h2.le z.size) (by show 0 < 1024; omega) 0 0).mono fun e w' hr => ?_
  obtain ⟨r1, A', t', k1, k2, k3, k4, k5⟩ := hr
  have hsz : (Y.alloc (.cells (rcells (rnewA gn fv gb w0.heap.size) 0) 48)).heap.size = Y.heap.size + 1 := by simp
  have hw := xy.size
  have hz := z.size
  refine ⟨r1, A', t', k1, k2, k4.trans h3, fun i hi => (k3 i (by omega)).trans (h4 i hi), ?_⟩
  have c1 := (((xy.trans (Ex.made _ _)).trans z).chg (fun _ => False)).trans k5 (fun i hi hf => (hf (by rw [h4 i hi])).elim)
  exact c1.below (Nat.le_refl _) (fun i hi => hi.elim)

set_option maxRecDepth 20000 in
set_option maxHeartbeats 25600000 in
theorem rnew_any {w w0 : World} {gn : Nat} {fv : Value} {F : Fns} (hF : C15.RdP w0 fv F) (x0 : Ex w0 w) (hg : gn ≤ 32) :
    Calls Tryz.prog 8 #[.agg #[.int .i64 (gn : Nat), fv]] w fun e w' => ∃ xb, e = .returned (.pointer (some ⟨xb, 0, none⟩)) ∧ NewD w0.heap.size w xb gn F w' := by
  obtain ⟨fa, fc, hfv⟩ := hF.val
  have HF := Lib.hid hF
  have HX := Lib.hid x0
  subst hfv
  clear hF x0
  go_enter Tryz.func8, Tryz.ntmps8
  go_upto_region 1 with fail
  obtain ⟨fl, hfl⟩ : ∃ k, F.length = k := ⟨_, rfl⟩
  rw [hfl] at HF ⊢
  have hb := Box.fresh w #[.int .i64 (gn : Nat), .slice fa fl fc] 24
  have hx := Ex.made w (.cells #[.int .i64 (gn : Nat), .slice fa fl fc] 24)
  obtain ⟨pb, hpb⟩ : ∃ b, w.heap.size = b := ⟨_, rfl⟩
  obtain ⟨U, hU⟩ : ∃ U, U = w.alloc (.cells #[.int .i64 (gn : Nat), .slice fa fl fc] 24) := ⟨_, rfl⟩
  rw [hpb] at hb ⊢
  rw [← hU] at hb hx ⊢
  have HB := Lib.hid hb
  have XU := Lib.hid hx
  have hms := make_ints U.drew gn (by omega)
  have d0 := hb.cell 0
  have d1 := hb.cell 1
  have plt := hb.lt
  clear hU hx hb hpb hfl
  have hI : Box (U.alloc (.cells (S12.ints (List.replicate gn 0)).toArray 3)) U.heap.size (S12.ints (List.replicate gn 0)).toArray 3 := Box.fresh _ _ _
  have KS := Lib.hid (fun (W : World) (z : Ex ((U.alloc (.cells (S12.ints (List.replicate gn 0)).toArray 3)).alloc (.cells (rcells (rnewA gn (.slice fa fl fc) U.heap.size w0.heap.size) 0) 48)) W) => new_rspawn (gb := U.heap.size) HF.out HX.out hg (XU.out.trans (Ex.made U _)) XU.out.size hI z)
  have hsz : (U.alloc (.cells (S12.ints (List.replicate gn 0)).toArray 3)).heap.size = U.heap.size + 1 := by simp
  rw [hsz] at KS
  clear hI hsz
  go_region
  go_wp2_with fail
  refine (KS.out _ (Ex.drawn _ 1)).mono ?_
  rintro e w3 ⟨rfl, hn⟩
  have HN := Lib.hid hn
  clear hn
  go_wp2_with fail
  go_ret
  exact ⟨_, rfl, HN.out⟩

end Go.Proofs.YtmlobpapjfkbmaaGreat

/- The document's Do. -/
namespace Go.Proofs.YtmlobpapjfkbmaaGreat
open Go.RowKit
set_option linter.unusedVariables false
set_option maxRecDepth 20000
set_option linter.unusedSimpArgs false

/-- What can't be done ends the goroutine, and tells nothing. -/
theorem opM_bad {m : MS} {g op a b c : Nat} (h : opBad m g op a b c = true) : opM m g op a b c = deadM m g ∧ opV m g op a b c = 0 := by
  unfold opBad at h
  split at h
  · have h2 := of_decide_eq_true h
    exact ⟨if_pos h2, if_pos (decide_eq_true h2)⟩
  · have h2 := of_decide_eq_true h
    exact ⟨if_pos h2, rfl⟩
  · have h2 := of_decide_eq_true h
    exact ⟨if_neg (by omega), if_neg (by omega)⟩
  · cases h
theorem REffX.exl {w w1 w' : World} {A : RA} {t : Nat → Tg} {xb : Nat} {F : Fns} {m' : MS} {cb : Nat} {cc : CmI} {v : Int} {bad : Bool} (z : Ex w w1) (h : REffX w1 A t xb F cb cc m' v bad w') : REffX w A t xb F cb cc m' v bad w' := by
  obtain ⟨A', t', h1, h2, h3, h4, h5, h6, h7⟩ := h
  exact ⟨A', t', h1, h2, fun i hi => h3 i (Nat.lt_of_lt_of_le hi z.size), h4, h5, h6, (z.chg _).trans h7 (fun _ _ h => h)⟩
/-- What Do leaves. -/
theorem rdo_fin {w W5 W6 w7 Z : World} {A A7 : RA} {t t7 : Nat → Tg} {xb : Nat} {F : Fns} {m7 : MS} {gb cb rx : Nat} (nw : New w t) (hp : A.pb ≤ w.heap.size) (x5 : Ex w W5) (hgt : (t gb).1 ≠ 0) (k6 : Chg (fun i => i = gb) W5 W6)
    (T7 : ∀ i, i < W6.heap.size → t7 i = t i) (R7 : Rf w7 A7 t7 xb F m7) (N7 : New w7 t7) (P7 : A7.pb = A.pb) (K7 : Chg (fun i => (t i).1 ≠ 0 ∨ i = cb) W6 w7) (hcb : w.heap.size ≤ cb) (hrx : w.heap.size ≤ rx) (hr6 : rx < W6.heap.size) (kZ : Chg (fun i => i = rx) w7 Z) : SpawnD w A t xb F m7 Z := by
  have h5 := Nat.le_trans x5.size k6.size
  refine ⟨A7, t7, R7.ex kZ (fun i hi => .inr (by subst hi; exact ⟨by rw [T7 _ hr6]; exact nw _ hrx, by rw [P7]; exact Nat.le_trans hp hrx⟩)), N7.le kZ.size, fun i hi => T7 i (Nat.lt_of_lt_of_le hi h5), P7, ?_⟩
  refine (((x5.chg (fun i => (t i).1 ≠ 0)).trans k6 (fun i _ hi => by rw [hi]; exact hgt)).trans K7 (fun i hi h => ?_)).trans kZ (fun i hi h => ?_)
  · rcases h with h | h
    · exact h
    · omega
  · omega

set_option maxRecDepth 20000 in
set_option maxHeartbeats 25600000 in
theorem rdo_go {w : World} {A : RA} {t : Nat → Tg} {xb : Nat} {F : Fns} {gn n : Nat} {m : MS} (h : Rf w A t xb F m) (nw : New w t) (hp : A.pb ≤ w.heap.size) (hm : C15.mayI gn F = 0) (I : Inv F gn n m) (hn : n ≤ 200) (hcl : m.clock ≤ 1000000) (hu : T13.Up m.sleep) {g : Nat} (hg : g < m.gs.length) (h1 : m.st.getD g 0 = 1) :
    Calls Tryz.prog 13 #[.pointer (some ⟨xb, 0, none⟩), .int .i64 (g : Nat)] w fun e w' => e = .returned (.tuple #[cmV (tells F m g), .int .i64 0]) ∧ SpawnD w A t xb F (stepM F m g) w' := by
  obtain ⟨op, a, b, c, hi, f, hz⟩ := inst_fit hm (I.fn g hg)
  have P := may_pf hm
  have H := Lib.hid h
  have N := Lib.hid nw
  have HP := Lib.hid hp
  have HI := Lib.hid hi
  have HF := Lib.hid f
  have HII := Lib.hid I
  have HM := Lib.hid hm
  have HU := Lib.hid hu
  have HG := Lib.hid hg
  have H1 := Lib.hid h1
  have KN := Lib.hid (fun W1 (x : Ex w W1) => rnext_ok (h.exs x) I.g1k hg (by omega) (I.fn g hg) P.len P.each (by have := (I.pc g hg).1; omega))
  rw [hi] at KN
  unfold instV at KN
  obtain ⟨rb, rc, hgv, rlt, rcap, rcell⟩ := h.gvat hg
  have c2 : w.cell? ⟨xb, 2, none⟩ = some A.gv := h.box.box.cell 2
  rw [hgv] at c2
  have hB := (h.gor g hg).box
  have g0 : w.cell? ⟨A.gb g, 0, none⟩ = some (.int .i64 1) := by rw [hB.cell]; show some (Value.int .i64 ((m.st.getD g 0 : Nat) : Int)) = _; rw [h1]; rfl
  have g1 : w.cell? ⟨A.gb g, 1, none⟩ = some (.int .i64 ((m.at g).f : Nat)) := by rw [hB.cell]; rfl
  have g2 : w.cell? ⟨A.gb g, 2, none⟩ = some (.int .i64 ((m.at g).pc : Nat)) := by rw [hB.cell]; rfl
  have glt := hB.lt
  have mlt := h.box.box.lt
  have hgk := I.g1k
  obtain ⟨gl, hgl⟩ : ∃ gl, m.gs.length = gl := ⟨_, rfl⟩
  rw [hgl] at c2 rcap hg hgk
  obtain ⟨f1, hff⟩ : ∃ f1, (m.at g).f = f1 := ⟨_, rfl⟩
  obtain ⟨pc, hpp⟩ : ∃ pc, (m.at g).pc = pc := ⟨_, rfl⟩
  have hpc : pc ≤ 65 := by rw [← hpp]; exact (I.pc g HG.out).1
  rw [hff] at g1
  rw [hpp] at g2
  have HFF := Lib.hid hff
  have HPP := Lib.hid hpp
  obtain ⟨gb, hgb⟩ : ∃ gb, A.gb g = gb := ⟨_, rfl⟩
  rw [hgb] at rcell g0 g1 g2 glt
  have HGB := Lib.hid hgb
  have i0 : ¬ (g : Int) < 0 := by omega
  have i00 : (0 : Int) ≤ (g : Int) := by omega
  have i1 : (g : Int) < (gl : Int) := by omega
  have i2 : ¬ (gl : Int) ≤ (g : Int) := by omega
  clear h nw hp hm I hu h1 hi f hz P hgv hB hgl hff hpp hgb
  go_enter Tryz.func13, Tryz.ntmps13
  go_wp2_with fail
  refine (KN.out _ (Ex.made _ _)).mono ?_
  rintro e w2 ⟨rfl, hx2⟩
  go_upto_region 7 with fail
  have b0 : Box (w.alloc (.cells (ccells 0 0 0 0 0 false) 50)) w.heap.size (ccells 0 0 0 0 0 false) 50 := Box.fresh w _ _
  have x0 : Ex w (w.alloc (.cells (ccells 0 0 0 0 0 false) 50)) := Ex.made _ _
  have b3 := Box.fresh w2 #[.int .i64 (op : Nat), .int .i64 (a : Nat), .int .i64 (b : Nat), .int .i64 (c : Nat)] 58
  have x3 := Ex.made w2 (.cells #[.int .i64 (op : Nat), .int .i64 (a : Nat), .int .i64 (b : Nat), .int .i64 (c : Nat)] 58)
  have E3 := Lib.hid ((x0.trans hx2).trans x3)
  have B0 := Lib.hid ((b0.ex hx2).ex x3)
  have B3 := Lib.hid b3
  have hxs : w.heap.size < w2.heap.size := (b0.ex hx2).lt
  obtain ⟨W3, hW3⟩ : ∃ W3, W3 = w2.alloc (.cells #[.int .i64 (op : Nat), .int .i64 (a : Nat), .int .i64 (b : Nat), .int .i64 (c : Nat)] 58) := ⟨_, rfl⟩
  rw [← hW3] at E3 B0 B3 ⊢
  obtain ⟨rx, hrx⟩ : ∃ k, w.heap.size = k := ⟨_, rfl⟩
  obtain ⟨ix, hix⟩ : ∃ k, w2.heap.size = k := ⟨_, rfl⟩
  rw [hrx] at B0 hxs ⊢
  rw [hix] at B3 hxs ⊢
  have HRX := Lib.hid hrx
  clear b0 x0 b3 x3 hW3 hrx hix hx2
  have R3 := H.out.exs E3.out
  have hbg : Box W3 gb (rgcells (m.st.getD g 0) (m.at g) (A.sk g)) 74 := by have := (R3.gor g HG.out).box; rw [HGB.out] at this; exact this
  have g1 : W3.cell? ⟨gb, 1, none⟩ = some (.int .i64 (f1 : Nat)) := by rw [hbg.cell, ← HFF.out]; rfl
  have g2 : W3.cell? ⟨gb, 2, none⟩ = some (.int .i64 (pc : Nat)) := by rw [hbg.cell, ← HPP.out]; rfl
  have d0 : W3.cell? ⟨ix, 0, none⟩ = some (.int .i64 (op : Nat)) := B3.out.cell 0
  have glt3 := hbg.lt
  have ilt3 := B3.out.lt
  clear R3 hbg
  go_region
  obtain ⟨cb, hcb⟩ : ∃ k, W3.heap.size = k := ⟨_, rfl⟩
  have b5 : Box ((W3.alloc (.cells (ccells (g : Nat) (f1 : Nat) (pc : Nat) (op : Nat) 0 false) 50)).drew) cb (ccells (g : Nat) (f1 : Nat) (pc : Nat) (op : Nat) 0 false) 50 := hcb ▸ (Box.fresh W3 _ _).ex (ex_drw _)
  have x5 : Ex W3 ((W3.alloc (.cells (ccells (g : Nat) (f1 : Nat) (pc : Nat) (op : Nat) 0 false) 50)).drew) := (Ex.made _ _).trans (ex_drw _)
  obtain ⟨W5, hW5⟩ : ∃ W5, W5 = (W3.alloc (.cells (ccells (g : Nat) (f1 : Nat) (pc : Nat) (op : Nat) 0 false) 50)).drew := ⟨_, rfl⟩
  have hW5' : W5 = (W3.alloc (.cells #[.int .i64 (g : Nat), .int .i64 (f1 : Nat), .int .i64 (pc : Nat), .int .i64 (op : Nat), .int .i64 0, .bool false] 50)).drew := hW5
  rw [← hW5] at b5 x5
  rw [← hW5', hcb]
  have HCBW : Hid (w.heap.size ≤ cb) := Lib.hid (hcb ▸ E3.out.size)
  have HNE : Hid (rx ≠ cb) := Lib.hid (by have := B0.out.lt; omega)
  have E5 := Lib.hid (E3.out.trans x5)
  have B05 := Lib.hid (B0.out.ex x5)
  have B35 := Lib.hid (B3.out.ex x5)
  clear B0 B3 E3 hW5 hW5' d0 g1 g2 glt3 ilt3 hcb
  have R5 := H.out.exs E5.out
  have hbg : Box W5 gb (rgcells (m.st.getD g 0) (m.at g) (A.sk g)) 74 := by have := (R5.gor g HG.out).box; rw [HGB.out] at this; exact this
  have g2 : W5.cell? ⟨gb, 2, none⟩ = some (.int .i64 (pc : Nat)) := by rw [hbg.cell, ← HPP.out]; rfl
  have f2 := hbg.soft 2
  have glt5 := hbg.lt
  have ep : IntKind.i64.wrap ((pc : Int) + 1) = (pc : Int) + 1 := by rw [IntKind.wrap_i64]; omega
  have tgb : t gb = (10, g) := by have := (H.out.gor g HG.out).tag; rw [HGB.out] at this; exact this
  have k6 := Chg.cell (F := fun i => i = gb) W5 ⟨gb, 2, none⟩ (.int .i64 ((pc + 1 : Nat) : Int)) rfl
  have hskb := (R5.stk g HG.out)
  have n3 : A.sk g ≠ gb := fun e => by have h2 := hskb.tag; rw [e, tgb] at h2; simp at h2
  have R6 : Rf (W5.setCell ⟨gb, 2, none⟩ (.int .i64 ((pc + 1 : Nat) : Int))) A t xb F (m.put g (x1 m g)) := by
    have hb6 : Box (W5.setCell ⟨gb, 2, none⟩ (.int .i64 ((pc + 1 : Nat) : Int))) (A.gb g) (rgcells (m.st.getD g 0) (x1 m g) (A.sk g)) 74 := by
      rw [HGB.out]
      have := hbg.put 2 (.int .i64 ((pc + 1 : Nat) : Int))
      rw [← HPP.out] at this
      rw [← HPP.out]
      exact this
    have := R5.gput g (m.st.getD g 0) (x1 m g) hb6 (hskb.box.chg k6 n3) k6 (by rintro i rfl; left; rw [tgb]; simp)
    rw [st_same] at this
    exact this
  obtain ⟨W6, hW6⟩ : ∃ W6, W6 = W5.setCell ⟨gb, 2, none⟩ (.int .i64 ((pc + 1 : Nat) : Int)) := ⟨_, rfl⟩
  have hW6' : W6 = W5.setCell ⟨gb, 2, none⟩ (.int .i64 ((pc : Int) + 1)) := hW6
  rw [← hW6] at k6 R6
  have ngc : cb ≠ gb := fun e => by have h0 := N.out cb HCBW.out; rw [e, tgb] at h0; simp at h0
  have ngi : ix ≠ gb := fun e => by have h0 := N.out ix (by rw [HRX.out]; omega); rw [e, tgb] at h0; simp at h0
  have ngr : rx ≠ gb := fun e => by have h0 := N.out rx (Nat.le_of_eq HRX.out); rw [e, tgb] at h0; simp at h0
  have HC6 : Hid (CbR W6 A t cb ⟨(g : Nat), (f1 : Nat), (pc : Nat), (op : Nat)⟩ 0) := Lib.hid ⟨b5.chg k6 ngc, N.out cb HCBW.out, Nat.le_trans HP.out HCBW.out⟩
  have N6 : Hid (New W6 t) := Lib.hid (N.out.le (Nat.le_trans E5.out.size k6.size))
  have b3 := B35.out.chg k6 ngi
  have HR6 := Lib.hid R6
  have K6 := Lib.hid k6
  have B06 := Lib.hid (B05.out.chg k6 ngr)
  have HRX6 : Hid (rx < W6.heap.size) := Lib.hid B06.out.lt
  have HCB6 : Hid (cb < W6.heap.size) := Lib.hid HC6.out.box.lt
  have i0c : W6.cell? ⟨ix, 0, none⟩ = some (.int .i64 (op : Nat)) := b3.cell 0
  have i1c : W6.cell? ⟨ix, 1, none⟩ = some (.int .i64 (a : Nat)) := b3.cell 1
  have i2c : W6.cell? ⟨ix, 2, none⟩ = some (.int .i64 (b : Nat)) := b3.cell 2
  have i3c : W6.cell? ⟨ix, 3, none⟩ = some (.int .i64 (c : Nat)) := b3.cell 3
  have ilt6 := b3.lt
  have B36 := Lib.hid b3
  have hop := HF.out.o18
  have KPL : Hid (isPl op → Calls Tryz.prog 33 #[.pointer (some ⟨xb, 0, none⟩), .int .i64 (g : Nat), .agg #[.int .i64 (op : Nat), .int .i64 (a : Nat), .int .i64 (b : Nat), .int .i64 (c : Nat)], .pointer (some ⟨cb, 0, none⟩)] W6 fun e w' => e = .returned (.bool true) ∧ REffX W6 A t xb F cb ⟨(g : Nat), (f1 : Nat), (pc : Nat), (op : Nat)⟩ (opB m g op a b c) (opV m g op a b c) (opBad m g op a b c) w') :=
    Lib.hid (fun hpl => (rpl_any HR6.out N6.out HC6.out HII.out (by omega) (may_gn HM.out) HG.out HF.out hpl).mono (fun e w' ⟨h1, h2⟩ => ⟨h1, h2.x⟩))
  have KNP : Hid (¬ isPl op → Calls Tryz.prog 33 #[.pointer (some ⟨xb, 0, none⟩), .int .i64 (g : Nat), .agg #[.int .i64 (op : Nat), .int .i64 (a : Nat), .int .i64 (b : Nat), .int .i64 (c : Nat)], .pointer (some ⟨cb, 0, none⟩)] W6 fun e w' => e = .returned (.bool false) ∧ Ex W6 w') :=
    Lib.hid (fun hpl => rpl_not HR6.out N6.out (by rw [gs_put]; exact HG.out) (by rw [gs_put]; exact HII.out.g1k) op a b c hop hpl)
  have KOT : Hid (∀ W, Ex W6 W → ¬ isPl op → Calls Tryz.prog 34 #[.pointer (some ⟨xb, 0, none⟩), .int .i64 (g : Nat), .agg #[.int .i64 (op : Nat), .int .i64 (a : Nat), .int .i64 (b : Nat), .int .i64 (c : Nat)], .pointer (some ⟨cb, 0, none⟩)] W fun e w' => e = .returned (.tuple #[]) ∧ REffX W6 A t xb F cb ⟨(g : Nat), (f1 : Nat), (pc : Nat), (op : Nat)⟩ (opB m g op a b c) (opV m g op a b c) (opBad m g op a b c) w') :=
    Lib.hid (fun W z hpl => (roth_any (HR6.out.exs z) (N6.out.le z.size) ⟨HC6.out.box.ex z, HC6.out.tag, HC6.out.pb⟩ HII.out hn HG.out H1.out (by omega) HU.out HF.out hpl).mono (fun e w' ⟨h1, h2⟩ => ⟨h1, REffX.exl z h2⟩))
  obtain ⟨m7, hm7⟩ : ∃ k, opB m g op a b c = k := ⟨_, rfl⟩
  obtain ⟨vv, hvv⟩ : ∃ k, opV m g op a b c = k := ⟨_, rfl⟩
  obtain ⟨bad, hbad⟩ : ∃ k, opBad m g op a b c = k := ⟨_, rfl⟩
  rw [hm7, hvv, hbad] at KPL KOT
  have HBAD : Hid (bad = true → vv = 0 ∧ m7 = m.put g (x1 m g)) := Lib.hid (fun e => by
    rw [e] at hbad
    exact ⟨hvv ▸ (opM_bad hbad).2, hm7 ▸ if_pos hbad⟩)
  have HEND : Hid (∀ Z, (bad = false ∧ SpawnD w A t xb F m7 Z) ∨ (bad = true ∧ SpawnD w A t xb F { m7 with st := m7.st.set g 5 } Z) → Ending.returned (.tuple #[.agg #[.int .i64 (g : Nat), .int .i64 (f1 : Nat), .int .i64 (pc : Nat), .int .i64 (op : Nat), .int .i64 vv, .bool bad], .int .i64 0]) = .returned (.tuple #[cmV (tells F m g), .int .i64 0]) ∧ SpawnD w A t xb F (stepM F m g) Z) := Lib.hid (fun Z hz => by
    refine ⟨?_, ?_⟩
    · unfold cmV tells
      rw [HI.out, HFF.out, HPP.out]
      simp only [Int.toNat_natCast]
      rw [hvv, hbad]
    · have e : stepM F m g = opM m g op a b c := by
        unfold stepM; rw [HI.out]; simp only [Int.toNat_natCast]
      rw [e]
      rcases hz with ⟨h1, h2⟩ | ⟨h1, h2⟩
      · have : m7 = opM m g op a b c := by rw [← hm7]; exact if_neg (by rw [hbad, h1]; simp)
        rw [← this]; exact h2
      · have : opM m g op a b c = deadM m g := (opM_bad (by rw [hbad, h1])).1
        have e7 : m7 = m.put g (x1 m g) := by rw [← hm7]; exact if_pos (by rw [hbad, h1])
        rw [this]
        rw [e7] at h2
        exact h2)
  clear hm7 hvv hbad b5 x5 R5 hbg hskb n3 R6 k6 b3 tgb
  go_upto_region 9 with fail
  rw [← hW6']
  clear hW6 hW6' g2 f2 ep
  by_cases hpl : isPl op
  · have KP := Lib.hid (KPL.out hpl)
    clear KNP KOT KPL
    go_wp2_with fail
    refine KP.out.mono ?_
    rintro e w7 ⟨rfl, hx7⟩
    have HX7 := Lib.hid hx7
    clear hx7 i0c i1c i2c i3c KP
    obtain ⟨A7, t7, R7, N7, T7, P7, G7, C7, K7⟩ := HX7.out
    have trx : (t rx).1 = 0 := N.out rx (Nat.le_of_eq HRX.out)
    have tcb : (t cb).1 = 0 := N.out cb HCBW.out
    have br7 : Box w7 rx (ccells 0 0 0 0 0 false) 50 := B06.out.chg K7 (fun e => by rcases e with e | e; exact e trx; exact HNE.out e)
    have C7 : Box w7 cb (ccells (g : Nat) (f1 : Nat) (pc : Nat) (op : Nat) vv bad) 50 := C7
    have q0 : w7.cell? ⟨cb, 0, none⟩ = some (.int .i64 (g : Nat)) := C7.cell 0
    have q1 : w7.cell? ⟨cb, 1, none⟩ = some (.int .i64 (f1 : Nat)) := C7.cell 1
    have q2 : w7.cell? ⟨cb, 2, none⟩ = some (.int .i64 (pc : Nat)) := C7.cell 2
    have q3 : w7.cell? ⟨cb, 3, none⟩ = some (.int .i64 (op : Nat)) := C7.cell 3
    have q4 : w7.cell? ⟨cb, 4, none⟩ = some (.int .i64 vv) := C7.cell 4
    have q5 : w7.cell? ⟨cb, 5, none⟩ = some (.bool bad) := C7.cell 5
    have qf := C7.soft 4
    have cblt := C7.lt
    have p0 : w7.cell? ⟨rx, 0, none⟩ = some (.int .i64 0) := br7.cell 0
    have p1 : w7.cell? ⟨rx, 1, none⟩ = some (.int .i64 0) := br7.cell 1
    have p2 : w7.cell? ⟨rx, 2, none⟩ = some (.int .i64 0) := br7.cell 2
    have p3 : w7.cell? ⟨rx, 3, none⟩ = some (.int .i64 0) := br7.cell 3
    have p4 : w7.cell? ⟨rx, 4, none⟩ = some (.int .i64 0) := br7.cell 4
    have p5 : w7.cell? ⟨rx, 5, none⟩ = some (.bool false) := br7.cell 5
    have s0 := br7.soft 0
    have s1 := br7.soft 1
    have s2 := br7.soft 2
    have s3 := br7.soft 3
    have s4 := br7.soft 4
    have s5 := br7.soft 5
    have rxlt := br7.lt
    have hne : rx ≠ cb := HNE.out
    have hne2 : cb ≠ rx := fun e => hne e.symm
    have tgb : (t gb).1 ≠ 0 := by have := (H.out.gor g HG.out).tag; rw [HGB.out] at this; rw [this]; simp
    cases bad with
    | false =>
      have BR := Lib.hid (put6_box br7 (g : Nat) (f1 : Nat) (pc : Nat) (op : Nat) vv false)
      have HFIN := Lib.hid (rdo_fin N.out HP.out E5.out tgb K6.out T7 R7 N7 P7 K7 HCBW.out (Nat.le_of_eq HRX.out) HRX6.out (put6_chg w7 rx (g : Nat) (f1 : Nat) (pc : Nat) (op : Nat) vv false))
      obtain ⟨Z, hZ⟩ : ∃ Z, Z = put6 w7 rx (g : Nat) (f1 : Nat) (pc : Nat) (op : Nat) vv false := ⟨_, rfl⟩
      have hZ2 := hZ
      unfold put6 at hZ2
      rw [← hZ] at BR HFIN
      clear R7 N7 T7 P7 G7 C7 K7 HX7 hZ br7 tgb trx tcb
      go_wp2_with fail
      rw [← hZ2]
      clear hZ2 q0 q1 q2 q3 q4 q5 p0 p1 p2 p3 p4 p5 s0 s1 s2 s3 s4 s5
      have z0 : Z.cell? ⟨rx, 0, none⟩ = some (.int .i64 (g : Nat)) := BR.out.cell 0
      have z1 : Z.cell? ⟨rx, 1, none⟩ = some (.int .i64 (f1 : Nat)) := BR.out.cell 1
      have z2 : Z.cell? ⟨rx, 2, none⟩ = some (.int .i64 (pc : Nat)) := BR.out.cell 2
      have z3 : Z.cell? ⟨rx, 3, none⟩ = some (.int .i64 (op : Nat)) := BR.out.cell 3
      have z4 : Z.cell? ⟨rx, 4, none⟩ = some (.int .i64 vv) := BR.out.cell 4
      have z5 : Z.cell? ⟨rx, 5, none⟩ = some (.bool false) := BR.out.cell 5
      refine bodyPost_ret (v := .tuple #[.agg #[.int .i64 (g : Nat), .int .i64 (f1 : Nat), .int .i64 (pc : Nat), .int .i64 (op : Nat), .int .i64 vv, .bool false], .int .i64 0]) (by simp [results, Tryz.results13, go_sem, z0, z1, z2, z3, z4, z5]) rfl ?_
      have := HEND.out Z (.inl ⟨by trivial, HFIN.out⟩)
      exact this
    | true =>
      obtain ⟨gA, gM⟩ := HBAD.out rfl
      have hA : A7.gb = A.gb := G7 rfl
      have hgm : g < m7.gs.length := by rw [gM, gs_put]; exact HG.out
      have hB7 := (R7.gor g hgm).box
      rw [hA, HGB.out] at hB7
      have w0 : w7.cell? ⟨gb, 0, none⟩ = some (.int .i64 (m7.st.getD g 0 : Nat)) := by rw [hB7.cell]; rfl
      have w1 := hB7.soft 0
      have gblt := hB7.lt
      have ngc : gb ≠ cb := fun e => by rw [e] at tgb; exact tgb tcb
      have ngr : gb ≠ rx := fun e => by rw [e] at tgb; exact tgb trx
      have ngc2 : cb ≠ gb := fun e => ngc e.symm
      have ngr2 : rx ≠ gb := fun e => ngr e.symm
      have kc := Chg.cell (F := fun i => i = cb) w7 ⟨cb, 4, none⟩ (.int .i64 0) rfl
      have hcb7 : t7 cb = t cb := T7 cb HCB6.out
      have R8 := R7.ex kc (fun i hi => .inr (by subst hi; exact ⟨by rw [hcb7]; exact tcb, by rw [P7]; exact Nat.le_trans HP.out HCBW.out⟩))
      obtain ⟨R9, k9⟩ := rf_st R8 hgm 5 (Ex.refl _) (Ex.refl _)
      rw [hA, HGB.out] at R9 k9
      have K9 : Chg (fun i => (t i).1 ≠ 0 ∨ i = cb) W6 _ := (K7.trans (kc.weak (fun i _ hi => (show (t i).1 ≠ 0 ∨ i = cb from .inr hi))) (fun _ _ h => h)).trans (k9.weak (fun i _ hi => (show (t i).1 ≠ 0 ∨ i = cb from .inl (by rw [hi]; exact tgb)))) (fun _ _ h => h)
      have N9 := (N7.le kc.size).le k9.size
      have br9 := (br7.chg kc hne).chg k9 ngr2
      have bc9 := (C7.put 4 (.int .i64 0)).put_other ngc2 0 (.int .i64 ((5 : Nat) : Int))
      obtain ⟨W9, hW9⟩ : ∃ W9, W9 = (w7.setCell ⟨cb, 4, none⟩ (.int .i64 0)).setCell ⟨gb, 0, none⟩ (.int .i64 ((5 : Nat) : Int)) := ⟨_, rfl⟩
      rw [← hW9] at R9 K9 N9 br9 bc9
      have BR := Lib.hid (put6_box br9 (g : Nat) (f1 : Nat) (pc : Nat) (op : Nat) 0 true)
      have HFIN := Lib.hid (rdo_fin N.out HP.out E5.out tgb K6.out T7 R9 N9 P7 K9 HCBW.out (Nat.le_of_eq HRX.out) HRX6.out (put6_chg W9 rx (g : Nat) (f1 : Nat) (pc : Nat) (op : Nat) 0 true))
      have hW10 : W9 = (w7.setCell ⟨cb, 4, none⟩ (.int .i64 0)).setCell ⟨gb, 0, none⟩ (.int .i64 5) := hW9
      have q0 : W9.cell? ⟨cb, 0, none⟩ = some (.int .i64 (g : Nat)) := bc9.cell 0
      have q1 : W9.cell? ⟨cb, 1, none⟩ = some (.int .i64 (f1 : Nat)) := bc9.cell 1
      have q2 : W9.cell? ⟨cb, 2, none⟩ = some (.int .i64 (pc : Nat)) := bc9.cell 2
      have q3 : W9.cell? ⟨cb, 3, none⟩ = some (.int .i64 (op : Nat)) := bc9.cell 3
      have q4 : W9.cell? ⟨cb, 4, none⟩ = some (.int .i64 0) := bc9.cell 4
      have q5 : W9.cell? ⟨cb, 5, none⟩ = some (.bool true) := bc9.cell 5
      have p0 : W9.cell? ⟨rx, 0, none⟩ = some (.int .i64 0) := br9.cell 0
      have p1 : W9.cell? ⟨rx, 1, none⟩ = some (.int .i64 0) := br9.cell 1
      have p2 : W9.cell? ⟨rx, 2, none⟩ = some (.int .i64 0) := br9.cell 2
      have p3 : W9.cell? ⟨rx, 3, none⟩ = some (.int .i64 0) := br9.cell 3
      have p4 : W9.cell? ⟨rx, 4, none⟩ = some (.int .i64 0) := br9.cell 4
      have p5 : W9.cell? ⟨rx, 5, none⟩ = some (.bool false) := br9.cell 5
      have s0 := br9.soft 0
      have s1 := br9.soft 1
      have s2 := br9.soft 2
      have s3 := br9.soft 3
      have s4 := br9.soft 4
      have s5 := br9.soft 5
      have rxlt9 := br9.lt
      have cblt9 := bc9.lt
      clear R7 N7 T7 P7 G7 C7 K7 HX7 br7 tgb trx tcb R8 R9 k9 K9 N9 br9 bc9 hB7 kc hcb7 hW9
      go_upto_region 14 with fail
      rw [← hW10]
      clear hW10 w0 w1 qf
      go_wp2_with fail
      obtain ⟨Z, hZ⟩ : ∃ Z, Z = put6 W9 rx (g : Nat) (f1 : Nat) (pc : Nat) (op : Nat) 0 true := ⟨_, rfl⟩
      have hZ2 := hZ
      unfold put6 at hZ2
      rw [← hZ2]
      rw [← hZ] at BR HFIN
      clear hZ hZ2 q0 q1 q2 q3 q4 q5 p0 p1 p2 p3 p4 p5 s0 s1 s2 s3 s4 s5
      have z0 : Z.cell? ⟨rx, 0, none⟩ = some (.int .i64 (g : Nat)) := BR.out.cell 0
      have z1 : Z.cell? ⟨rx, 1, none⟩ = some (.int .i64 (f1 : Nat)) := BR.out.cell 1
      have z2 : Z.cell? ⟨rx, 2, none⟩ = some (.int .i64 (pc : Nat)) := BR.out.cell 2
      have z3 : Z.cell? ⟨rx, 3, none⟩ = some (.int .i64 (op : Nat)) := BR.out.cell 3
      have z4 : Z.cell? ⟨rx, 4, none⟩ = some (.int .i64 0) := BR.out.cell 4
      have z5 : Z.cell? ⟨rx, 5, none⟩ = some (.bool true) := BR.out.cell 5
      refine bodyPost_ret (v := .tuple #[.agg #[.int .i64 (g : Nat), .int .i64 (f1 : Nat), .int .i64 (pc : Nat), .int .i64 (op : Nat), .int .i64 0, .bool true], .int .i64 0]) (by simp [results, Tryz.results13, go_sem, z0, z1, z2, z3, z4, z5]) rfl ?_
      have := HEND.out Z (.inr ⟨by trivial, HFIN.out⟩)
      rw [gA] at this
      exact this
  · have KP := Lib.hid (KNP.out hpl)
    have KO := Lib.hid (fun W z => KOT.out W z hpl)
    clear KNP KOT KPL
    go_wp2_with fail
    refine KP.out.mono ?_
    rintro e w6 ⟨rfl, hx6⟩
    have HX6 := Lib.hid hx6
    have b36 := B36.out.ex hx6
    have j0c : w6.cell? ⟨ix, 0, none⟩ = some (.int .i64 (op : Nat)) := b36.cell 0
    have j1c : w6.cell? ⟨ix, 1, none⟩ = some (.int .i64 (a : Nat)) := b36.cell 1
    have j2c : w6.cell? ⟨ix, 2, none⟩ = some (.int .i64 (b : Nat)) := b36.cell 2
    have j3c : w6.cell? ⟨ix, 3, none⟩ = some (.int .i64 (c : Nat)) := b36.cell 3
    have jlt := b36.lt
    clear hx6 i0c i1c i2c i3c KP b36
    go_wp2_with fail
    refine (KO.out w6 HX6.out).mono ?_
    rintro e w7 ⟨rfl, hx7⟩
    have HX7 := Lib.hid hx7
    clear hx7 j0c j1c j2c j3c KO HX6
    obtain ⟨A7, t7, R7, N7, T7, P7, G7, C7, K7⟩ := HX7.out
    have trx : (t rx).1 = 0 := N.out rx (Nat.le_of_eq HRX.out)
    have tcb : (t cb).1 = 0 := N.out cb HCBW.out
    have br7 : Box w7 rx (ccells 0 0 0 0 0 false) 50 := B06.out.chg K7 (fun e => by rcases e with e | e; exact e trx; exact HNE.out e)
    have C7 : Box w7 cb (ccells (g : Nat) (f1 : Nat) (pc : Nat) (op : Nat) vv bad) 50 := C7
    have q0 : w7.cell? ⟨cb, 0, none⟩ = some (.int .i64 (g : Nat)) := C7.cell 0
    have q1 : w7.cell? ⟨cb, 1, none⟩ = some (.int .i64 (f1 : Nat)) := C7.cell 1
    have q2 : w7.cell? ⟨cb, 2, none⟩ = some (.int .i64 (pc : Nat)) := C7.cell 2
    have q3 : w7.cell? ⟨cb, 3, none⟩ = some (.int .i64 (op : Nat)) := C7.cell 3
    have q4 : w7.cell? ⟨cb, 4, none⟩ = some (.int .i64 vv) := C7.cell 4
    have q5 : w7.cell? ⟨cb, 5, none⟩ = some (.bool bad) := C7.cell 5
    have qf := C7.soft 4
    have cblt := C7.lt
    have p0 : w7.cell? ⟨rx, 0, none⟩ = some (.int .i64 0) := br7.cell 0
    have p1 : w7.cell? ⟨rx, 1, none⟩ = some (.int .i64 0) := br7.cell 1
    have p2 : w7.cell? ⟨rx, 2, none⟩ = some (.int .i64 0) := br7.cell 2
    have p3 : w7.cell? ⟨rx, 3, none⟩ = some (.int .i64 0) := br7.cell 3
    have p4 : w7.cell? ⟨rx, 4, none⟩ = some (.int .i64 0) := br7.cell 4
    have p5 : w7.cell? ⟨rx, 5, none⟩ = some (.bool false) := br7.cell 5
    have s0 := br7.soft 0
    have s1 := br7.soft 1
    have s2 := br7.soft 2
    have s3 := br7.soft 3
    have s4 := br7.soft 4
    have s5 := br7.soft 5
    have rxlt := br7.lt
    have hne : rx ≠ cb := HNE.out
    have hne2 : cb ≠ rx := fun e => hne e.symm
    have tgb : (t gb).1 ≠ 0 := by have := (H.out.gor g HG.out).tag; rw [HGB.out] at this; rw [this]; simp
    cases bad with
    | false =>
      have BR := Lib.hid (put6_box br7 (g : Nat) (f1 : Nat) (pc : Nat) (op : Nat) vv false)
      have HFIN := Lib.hid (rdo_fin N.out HP.out E5.out tgb K6.out T7 R7 N7 P7 K7 HCBW.out (Nat.le_of_eq HRX.out) HRX6.out (put6_chg w7 rx (g : Nat) (f1 : Nat) (pc : Nat) (op : Nat) vv false))
      obtain ⟨Z, hZ⟩ : ∃ Z, Z = put6 w7 rx (g : Nat) (f1 : Nat) (pc : Nat) (op : Nat) vv false := ⟨_, rfl⟩
      have hZ2 := hZ
      unfold put6 at hZ2
      rw [← hZ] at BR HFIN
      clear R7 N7 T7 P7 G7 C7 K7 HX7 hZ br7 tgb trx tcb
      go_wp2_with fail
      rw [← hZ2]
      clear hZ2 q0 q1 q2 q3 q4 q5 p0 p1 p2 p3 p4 p5 s0 s1 s2 s3 s4 s5
      have z0 : Z.cell? ⟨rx, 0, none⟩ = some (.int .i64 (g : Nat)) := BR.out.cell 0
      have z1 : Z.cell? ⟨rx, 1, none⟩ = some (.int .i64 (f1 : Nat)) := BR.out.cell 1
      have z2 : Z.cell? ⟨rx, 2, none⟩ = some (.int .i64 (pc : Nat)) := BR.out.cell 2
      have z3 : Z.cell? ⟨rx, 3, none⟩ = some (.int .i64 (op : Nat)) := BR.out.cell 3
      have z4 : Z.cell? ⟨rx, 4, none⟩ = some (.int .i64 vv) := BR.out.cell 4
      have z5 : Z.cell? ⟨rx, 5, none⟩ = some (.bool false) := BR.out.cell 5
      refine bodyPost_ret (v := .tuple #[.agg #[.int .i64 (g : Nat), .int .i64 (f1 : Nat), .int .i64 (pc : Nat), .int .i64 (op : Nat), .int .i64 vv, .bool false], .int .i64 0]) (by simp [results, Tryz.results13, go_sem, z0, z1, z2, z3, z4, z5]) rfl ?_
      have := HEND.out Z (.inl ⟨by trivial, HFIN.out⟩)
      exact this
    | true =>
      obtain ⟨gA, gM⟩ := HBAD.out rfl
      have hA : A7.gb = A.gb := G7 rfl
      have hgm : g < m7.gs.length := by rw [gM, gs_put]; exact HG.out
      have hB7 := (R7.gor g hgm).box
      rw [hA, HGB.out] at hB7
      have w0 : w7.cell? ⟨gb, 0, none⟩ = some (.int .i64 (m7.st.getD g 0 : Nat)) := by rw [hB7.cell]; rfl
      have w1 := hB7.soft 0
      have gblt := hB7.lt
      have ngc : gb ≠ cb := fun e => by rw [e] at tgb; exact tgb tcb
      have ngr : gb ≠ rx := fun e => by rw [e] at tgb; exact tgb trx
      have ngc2 : cb ≠ gb := fun e => ngc e.symm
      have ngr2 : rx ≠ gb := fun e => ngr e.symm
      have kc := Chg.cell (F := fun i => i = cb) w7 ⟨cb, 4, none⟩ (.int .i64 0) rfl
      have hcb7 : t7 cb = t cb := T7 cb HCB6.out
      have R8 := R7.ex kc (fun i hi => .inr (by subst hi; exact ⟨by rw [hcb7]; exact tcb, by rw [P7]; exact Nat.le_trans HP.out HCBW.out⟩))
      obtain ⟨R9, k9⟩ := rf_st R8 hgm 5 (Ex.refl _) (Ex.refl _)
      rw [hA, HGB.out] at R9 k9
      have K9 : Chg (fun i => (t i).1 ≠ 0 ∨ i = cb) W6 _ := (K7.trans (kc.weak (fun i _ hi => (show (t i).1 ≠ 0 ∨ i = cb from .inr hi))) (fun _ _ h => h)).trans (k9.weak (fun i _ hi => (show (t i).1 ≠ 0 ∨ i = cb from .inl (by rw [hi]; exact tgb)))) (fun _ _ h => h)
      have N9 := (N7.le kc.size).le k9.size
      have br9 := (br7.chg kc hne).chg k9 ngr2
      have bc9 := (C7.put 4 (.int .i64 0)).put_other ngc2 0 (.int .i64 ((5 : Nat) : Int))
      obtain ⟨W9, hW9⟩ : ∃ W9, W9 = (w7.setCell ⟨cb, 4, none⟩ (.int .i64 0)).setCell ⟨gb, 0, none⟩ (.int .i64 ((5 : Nat) : Int)) := ⟨_, rfl⟩
      rw [← hW9] at R9 K9 N9 br9 bc9
      have BR := Lib.hid (put6_box br9 (g : Nat) (f1 : Nat) (pc : Nat) (op : Nat) 0 true)
      have HFIN := Lib.hid (rdo_fin N.out HP.out E5.out tgb K6.out T7 R9 N9 P7 K9 HCBW.out (Nat.le_of_eq HRX.out) HRX6.out (put6_chg W9 rx (g : Nat) (f1 : Nat) (pc : Nat) (op : Nat) 0 true))
      have hW10 : W9 = (w7.setCell ⟨cb, 4, none⟩ (.int .i64 0)).setCell ⟨gb, 0, none⟩ (.int .i64 5) := hW9
      have q0 : W9.cell? ⟨cb, 0, none⟩ = some (.int .i64 (g : Nat)) := bc9.cell 0
      have q1 : W9.cell? ⟨cb, 1, none⟩ = some (.int .i64 (f1 : Nat)) := bc9.cell 1
      have q2 : W9.cell? ⟨cb, 2, none⟩ = some (.int .i64 (pc : Nat)) := bc9.cell 2
      have q3 : W9.cell? ⟨cb, 3, none⟩ = some (.int .i64 (op : Nat)) := bc9.cell 3
      have q4 : W9.cell? ⟨cb, 4, none⟩ = some (.int .i64 0) := bc9.cell 4
      have q5 : W9.cell? ⟨cb, 5, none⟩ = some (.bool true) := bc9.cell 5
      have p0 : W9.cell? ⟨rx, 0, none⟩ = some (.int .i64 0) := br9.cell 0
      have p1 : W9.cell? ⟨rx, 1, none⟩ = some (.int .i64 0) := br9.cell 1
      have p2 : W9.cell? ⟨rx, 2, none⟩ = some (.int .i64 0) := br9.cell 2
      have p3 : W9.cell? ⟨rx, 3, none⟩ = some (.int .i64 0) := br9.cell 3
      have p4 : W9.cell? ⟨rx, 4, none⟩ = some (.int .i64 0) := br9.cell 4
      have p5 : W9.cell? ⟨rx, 5, none⟩ = some (.bool false) := br9.cell 5
      have s0 := br9.soft 0
      have s1 := br9.soft 1
      have s2 := br9.soft 2
      have s3 := br9.soft 3
      have s4 := br9.soft 4
      have s5 := br9.soft 5
      have rxlt9 := br9.lt
      have cblt9 := bc9.lt
      clear R7 N7 T7 P7 G7 C7 K7 HX7 br7 tgb trx tcb R8 R9 k9 K9 N9 br9 bc9 hB7 kc hcb7 hW9
      go_upto_region 14 with fail
      rw [← hW10]
      clear hW10 w0 w1 qf
      go_wp2_with fail
      obtain ⟨Z, hZ⟩ : ∃ Z, Z = put6 W9 rx (g : Nat) (f1 : Nat) (pc : Nat) (op : Nat) 0 true := ⟨_, rfl⟩
      have hZ2 := hZ
      unfold put6 at hZ2
      rw [← hZ2]
      rw [← hZ] at BR HFIN
      clear hZ hZ2 q0 q1 q2 q3 q4 q5 p0 p1 p2 p3 p4 p5 s0 s1 s2 s3 s4 s5
      have z0 : Z.cell? ⟨rx, 0, none⟩ = some (.int .i64 (g : Nat)) := BR.out.cell 0
      have z1 : Z.cell? ⟨rx, 1, none⟩ = some (.int .i64 (f1 : Nat)) := BR.out.cell 1
      have z2 : Z.cell? ⟨rx, 2, none⟩ = some (.int .i64 (pc : Nat)) := BR.out.cell 2
      have z3 : Z.cell? ⟨rx, 3, none⟩ = some (.int .i64 (op : Nat)) := BR.out.cell 3
      have z4 : Z.cell? ⟨rx, 4, none⟩ = some (.int .i64 0) := BR.out.cell 4
      have z5 : Z.cell? ⟨rx, 5, none⟩ = some (.bool true) := BR.out.cell 5
      refine bodyPost_ret (v := .tuple #[.agg #[.int .i64 (g : Nat), .int .i64 (f1 : Nat), .int .i64 (pc : Nat), .int .i64 (op : Nat), .int .i64 0, .bool true], .int .i64 0]) (by simp [results, Tryz.results13, go_sem, z0, z1, z2, z3, z4, z5]) rfl ?_
      have := HEND.out Z (.inr ⟨by trivial, HFIN.out⟩)
      rw [gA] at this
      exact this

end Go.Proofs.YtmlobpapjfkbmaaGreat

/- The document's Reach. -/
namespace Go.Proofs.YtmlobpapjfkbmaaGreat
open Go.RowKit
set_option linter.unusedVariables false
set_option maxRecDepth 20000
set_option linter.unusedSimpArgs false

/-- All of them are marked. -/
def Seen (S : List Bool) (R : List Nat) : Prop := ∀ x ∈ R, x = 0 ∨ S.getD x false = true
theorem Seen.nil (S : List Bool) : Seen S [] := fun x hx => by cases hx
theorem Seen.mono {S S' : List Bool} {R : List Nat} (h : Seen S R) (hm : ∀ i, S.getD i false = true → S'.getD i false = true) : Seen S' R := fun x hx => (h x hx).imp id (hm x)
theorem Seen.add {S : List Bool} {R : List Nat} (h : Seen S R) (x : Nat) : Seen (addS S x) R := h.mono (fun i hi => addS_mono i hi)
theorem Seen.app {S : List Bool} {R R' : List Nat} (h : Seen S R) (h' : Seen S R') : Seen S (R ++ R') := fun x hx => (List.mem_append.1 hx).elim (h x) (h' x)
theorem Seen.take {S : List Bool} {R : List Nat} {i x : Nat} (h : Seen S (R.take i)) (hi : i < R.length) (hx : R.getD i 0 = x) (hs : x < S.length) : Seen (addS S x) (R.take (i + 1)) := by
  have : R.take (i + 1) = R.take i ++ [x] := by rw [List.take_add_one, ← hx]; simp [hi]
  rw [this]
  exact (h.add x).app (fun y hy => by obtain rfl := List.mem_singleton.1 hy; exact addS_hit hs)
theorem getD_mem {l : List Nat} {i x : Nat} (hi : i < l.length) (hx : l.getD i 0 = x) : x ∈ l := by
  rw [← hx, List.getD_eq_getElem?_getD, List.getElem?_eq_getElem hi]; exact List.getElem_mem hi
/-- A number of a row. -/
theorem prow_at {w : World} {t : Nat → Tg} {v : Value} {l : List Nat} {k : Tg} (h : PRow w t v 3 l.length (S12.ints l) k) {j : Nat} (hj : j < l.length) :
    ∃ b cap, v = .slice (some ⟨b, 0, none⟩) l.length cap ∧ b < w.heap.size ∧ l.length ≤ cap ∧ w.cell? ⟨b, j, none⟩ = some (.int .i64 (l.getD j 0 : Nat)) := by
  rcases row_shape h.row with ⟨h1, h2, -⟩ | ⟨g, cap, rfl, h2, h3, h4, h5⟩
  · omega
  · refine ⟨g, cap, rfl, h3, h4, ?_⟩
    rw [h.row.cellAt j (by omega)]
    simp [S12.ints, hj]
theorem rowI_at {w : World} {B : Nat} {v : Value} {l : List Nat} (h : RowI w B v l) {j : Nat} (hj : j < l.length) :
    ∃ b cap, v = .slice (some ⟨b, 0, none⟩) l.length cap ∧ b < w.heap.size ∧ l.length ≤ cap ∧ w.cell? ⟨b, j, none⟩ = some (.int .i64 (l.getD j 0 : Nat)) := by
  rcases row_shape h with ⟨h1, h2, -⟩ | ⟨g, cap, rfl, h2, h3, h4, h5⟩
  · omega
  · refine ⟨g, cap, rfl, h3, h4, ?_⟩
    rw [h.cellAt j (by omega)]
    simp [S12.ints, hj]
theorem ex_chgB {w w1 w2 : World} {B : Nat} (hB : w.heap.size = B) (x : Ex w w1) (c : Chg (fun i => B ≤ i) w1 w2) : Ex w w2 :=
  ((x.chg (fun _ => False)).trans c (fun i hi h => by omega)).below (Nat.le_refl _) (fun i hi => hi.elim)

set_option maxRecDepth 20000 in
set_option maxHeartbeats 25600000 in
theorem rreach_any {w : World} {A : RA} {t : Nat → Tg} {xb : Nat} {F : Fns} {m : MS} (h : Rf w A t xb F m) (V : Wf m) (r : Ran m) (hgs : m.gs.length ≤ 1024) :
    Calls Tryz.prog 43 #[.pointer (some ⟨xb, 0, none⟩)] w (RowOut w (rchL m)) := by
  have c4 : w.cell? ⟨xb, 4, none⟩ = some A.lv := h.box.box.cell 4
  have HM := Lib.hid h
  have HV := Lib.hid V
  have HR := Lib.hid r
  have hrt := roots_lt r V.st (fun g hg => (V.stk g hg).2)
  have HRT : Hid (∀ x ∈ rootsM m, x < m.slots.length ∧ (x = 0 ∨ Rch m x)) := Lib.hid (fun x hx => ⟨hrt x hx, (Nat.eq_zero_or_pos x).imp id (fun h0 => .root hx (by omega))⟩)
  have CX : Hid (∀ W, Ex w W → W.cell? ⟨xb, 2, none⟩ = some A.gv ∧ W.cell? ⟨xb, 3, none⟩ = some A.Gv ∧ W.cell? ⟨xb, 4, none⟩ = some A.lv) := Lib.hid (fun W x => ⟨(h.box.box.ex x).cell 2, (h.box.box.ex x).cell 3, (h.box.box.ex x).cell 4⟩)
  obtain ⟨sn, hsn⟩ : ∃ n, m.slots.length = n := ⟨_, rfl⟩
  obtain ⟨lo, lc, hlv⟩ := T13.row_val h.slr.row
  rw [hsn] at hlv
  rw [hlv] at c4
  have hsn1 : sn ≤ 100000 := hsn ▸ V.sn
  have hsn0 : 1 ≤ sn := hsn ▸ V.s0
  have e1 : IntKind.i64.wrap (((sn - 1 : Nat) : Int) + 1) = (sn : Int) := by rw [IntKind.wrap_i64]; omega
  have HI0 := Lib.hid (QInv.start m)
  have HSN := Lib.hid hsn
  have HLV := Lib.hid hlv
  have KMB := make_bools w sn hsn1
  obtain ⟨B, hB⟩ : ∃ B, w.heap.size = B := ⟨_, rfl⟩
  have Q0 : Hid (QM B (w.alloc (.cells (bools (List.replicate sn false)).toArray 4)) B sn (.slice none 0 0) (List.replicate sn false) []) := Lib.hid ⟨hB ▸ Box.fresh w _ _, by simp, Nat.le_refl _, World.ownsRow_nil _ _ _ _, fun b hb => by cases hb⟩
  have X0 := Lib.hid (Ex.made w (.cells (bools (List.replicate sn false)).toArray 4))
  have HB := Lib.hid hB
  rw [hB] at KMB
  rw [hsn] at HI0
  have KA : Hid (∀ (W : World) (lv : Value) (S : List Bool) (L : List Nat) (k x : Nat), QM B W B sn lv S L → QInv m k S L → Ex w W → x < sn → Calls Tryz.prog 77 #[.slice (some ⟨B, 0, none⟩) sn sn, lv, .int .i64 (x : Nat)] W (AddQ B W B sn S L x)) :=
    Lib.hid (fun W lv S L k x q i x0 hx => qadd_any q (Nat.le_trans (Nat.le_of_eq hB.symm) x0.size) x hx hsn1 (Nat.le_trans i.le (by omega)))
  obtain ⟨gl, hgl⟩ : ∃ n, m.globals.length = n := ⟨_, rfl⟩
  obtain ⟨gk, hgk⟩ : ∃ n, m.gs.length = n := ⟨_, rfl⟩
  obtain ⟨go, gc, hGv⟩ := T13.row_val h.glob.row
  obtain ⟨vo, vc, hgv⟩ := T13.row_val h.grow.row
  have hgl1 : gl ≤ 32 := hgl ▸ V.gl
  rw [hgk] at hgs hgv
  rw [hgl] at hGv
  have HGL := Lib.hid hgl
  have HGK := Lib.hid hgk
  have HGV := Lib.hid hGv
  have HVV := Lib.hid hgv
  clear h V r hrt hsn hlv hB hgl hgk hGv hgv
  go_enter Tryz.func43, Tryz.ntmps43
  go_wp2_with fail
  obtain ⟨W0, hW0⟩ : ∃ Y, Y = w.alloc (.cells (bools (List.replicate sn false)).toArray 4) := ⟨_, rfl⟩
  rw [← hW0] at Q0 X0 ⊢
  clear hW0 KMB c4
  go_loopw [4, 5] (fun lv iv wr => ∃ (j : Nat) (S : List Bool) (L : List Nat), j ≤ gl ∧ iv = .int .i64 j ∧ QM B wr B sn lv S L ∧ QInv m 0 S L ∧ Seen S (m.globals.take j) ∧ Ex w wr) (fun _ iv _ => gl - (intOf iv).toNat)
  case atStart => exact ⟨0, _, [], Nat.zero_le _, rfl, Q0.out, HI0.out, by simpa using Seen.nil _, X0.out⟩
  case round =>
    obtain ⟨j, S, L, hj, rfl, hq, hi, hs, hx⟩ := hrel
    have HQ := Lib.hid hq
    have HI := Lib.hid hi
    have HS := Lib.hid hs
    have HX := Lib.hid hx
    obtain ⟨c2, c3, c4⟩ := CX.out wr hx
    clear hq hi hs hx Q0 X0 HI0
    by_cases hlt : j < gl
    · obtain ⟨x, hx⟩ : ∃ x, m.globals.getD j 0 = x := ⟨_, rfl⟩
      have hjg : j < m.globals.length := by rw [HGL.out]; exact hlt
      obtain ⟨gb, gcap, hG2, -, hcap, gcell⟩ := prow_at (HM.out.exs HX.out).glob hjg
      rw [hG2, HGL.out] at c3
      rw [HGL.out] at hcap
      rw [hx] at gcell
      obtain ⟨xl, xr⟩ := HRT.out x (List.mem_append_left _ (getD_mem hjg hx))
      rw [HSN.out] at xl
      have KA1 := Lib.hid (KA.out wr _ S L 0 x HQ.out HI.out HX.out xl)
      have HS1 : Hid (Seen (addS S x) (m.globals.take (j + 1))) := Lib.hid (HS.out.take hjg hx (by rw [HI.out.len, HSN.out]; exact xl))
      have HI1 : Hid (QInv m 0 (addS S x) (addL S L x)) := Lib.hid (HI.out.add (Nat.zero_le _) xr (by rw [HSN.out]; exact xl))
      clear hG2 hx hjg xr
      go_wp2_with fail
      refine KA1.out.mono ?_
      rintro e w3 ⟨v', rfl, hq, hc⟩
      have HQ1 := Lib.hid hq
      have HX1 := Lib.hid (ex_chgB HB.out HX.out hc)
      clear hq hc
      go_wp2
      go_roundw
      case rel => exact ⟨j + 1, _, _, by omega, by go_num, HQ1.out, HI1.out, HS1.out, HX1.out⟩
      case measure => simp [intOf]; omega
    · obtain rfl : j = gl := by omega
      have hs0 : Seen S (m.globals ++ stacksTo m (S12.aliveTo m.st 0)) := by
        have := HS.out
        rw [show m.globals.take j = m.globals by rw [← HGL.out, List.take_length]] at this
        exact this.app (Seen.nil _)
      have HS0 := Lib.hid hs0
      have e3 : ¬ ((j : Int) < (j : Int)) := by omega
      rw [HGV.out] at c3
      clear hs0
      go_wp2_with fail
      clear c2 c3 c4 HS
      go_loopw [4, 6] (fun lv iv wr => ∃ (j : Nat) (S : List Bool) (L : List Nat), j ≤ gk ∧ iv = .int .i64 j ∧ QM B wr B sn lv S L ∧ QInv m 0 S L ∧ Seen S (m.globals ++ stacksTo m (S12.aliveTo m.st j)) ∧ Ex w wr) (fun _ iv _ => gk - (intOf iv).toNat)
      case atStart => exact ⟨0, S, L, Nat.zero_le _, rfl, HQ.out, HI.out, HS0.out, HX.out⟩
      case round =>
        clear HQ HI HS0 HX
        obtain ⟨g, S, L, hg, rfl, hq, hi, hs, hx⟩ := hrel
        have HQ := Lib.hid hq
        have HI := Lib.hid hi
        have HS := Lib.hid hs
        have HX := Lib.hid hx
        obtain ⟨c2, c3, c4⟩ := CX.out wr hx
        rw [HVV.out] at c2
        clear hq hi hs hx
        by_cases hlt : g < gk
        · go_wp2_with fail
          clear c2 c3 c4
          go_loopw [4, 7] (fun lv iv wr => ∃ (i : Nat) (S : List Bool) (L : List Nat), i ≤ 16 ∧ iv = .int .i64 i ∧ QM B wr B sn lv S L ∧ QInv m 0 S L ∧ Seen S (m.globals ++ stacksTo m (S12.aliveTo m.st g)) ∧ Seen S ((m.at g).stack.take i) ∧ Ex w wr) (fun _ iv _ => 16 - (intOf iv).toNat)
          case atStart => exact ⟨0, S, L, Nat.zero_le _, rfl, HQ.out, HI.out, HS.out, by simpa using Seen.nil _, HX.out⟩
          case round =>
            clear HQ HI HS HX
            obtain ⟨i, S, L, hi16, rfl, hq, hi, hs, ht, hx⟩ := hrel
            have HQ := Lib.hid hq
            have HI := Lib.hid hi
            have HS := Lib.hid hs
            have HT := Lib.hid ht
            have HX := Lib.hid hx
            obtain ⟨c2, c3, c4⟩ := CX.out wr hx
            have hgm : g < m.gs.length := by rw [HGK.out]; exact hlt
            obtain ⟨rb, rc, hgv, rlt, rcap, rcell⟩ := (HM.out.exs HX.out).gvat hgm
            rw [hgv, HGK.out] at c2
            rw [HGK.out] at rcap
            have hB := ((HM.out.exs HX.out).gor g hgm).box
            have hK := ((HM.out.exs HX.out).stk g hgm).box
            obtain ⟨s, hst⟩ : ∃ s, m.st.getD g 0 = s := ⟨_, rfl⟩
            have g0 : wr.cell? ⟨A.gb g, 0, none⟩ = some (.int .i64 (s : Nat)) := by rw [hB.cell, ← hst]; rfl
            have g4 : wr.cell? ⟨A.gb g, 4, none⟩ = some (.slice (some ⟨A.sk g, 0, none⟩) 16 16) := by rw [hB.cell]; rfl
            have glt := hB.lt
            have slt := hK.lt
            have sl := (HV.out.stk g hgm).1
            have hstl : g < m.st.length := by rw [HV.out.st]; exact hgm
            have j0 : (0 : Int) ≤ (g : Int) := by omega
            have j1 : (g : Int) < (gk : Int) := by omega
            clear hq hi hs ht hx hgv
            by_cases h5 : s = 5
            · have d5 : ((s : Int) != 5) = false := by simp; omega
              have HS1 : Hid (Seen S (m.globals ++ stacksTo m (S12.aliveTo m.st (g + 1)))) := Lib.hid (by rw [S12.alive_miss (by rw [hst]; exact h5)]; exact HS.out)
              clear hB hK hst sl
              by_cases hi6 : i < 16
              · have i6 : (i : Int) < 16 := by omega
                go_wp2_with fail
                go_roundw
                case rel => exact ⟨g + 1, S, L, by omega, by go_num, HQ.out, HI.out, HS1.out, HX.out⟩
                case measure => simp [intOf]; omega
              · obtain rfl : i = 16 := by omega
                go_wp2_with fail
                go_roundw
                case rel => exact ⟨g + 1, S, L, by omega, by go_num, HQ.out, HI.out, HS1.out, HX.out⟩
                case measure => simp [intOf]; omega
            · have d5 : ((s : Int) != 5) = true := by simp; omega
              by_cases hi6 : i < 16
              · have i6 : (i : Int) < 16 := by omega
                have i7 : (0 : Int) ≤ (i : Int) := by omega
                have his : i < (m.at g).stack.length := by rw [sl]; exact hi6
                obtain ⟨x, hx⟩ : ∃ x, (m.at g).stack.getD i 0 = x := ⟨_, rfl⟩
                have sc : wr.cell? ⟨A.sk g, i, none⟩ = some (.int .i64 (x : Nat)) := by rw [hK.cell, ← hx]; exact stk_at _ i his
                have hxm : x ∈ rootsM m := List.mem_append_right _ (List.mem_flatten.2 ⟨_, List.mem_map.2 ⟨g, List.mem_filter.2 ⟨List.mem_range.2 hstl, by rw [hst]; simpa using h5⟩, rfl⟩, getD_mem his hx⟩)
                obtain ⟨xl, xr⟩ := HRT.out x hxm
                rw [HSN.out] at xl
                have KA1 := Lib.hid (KA.out wr _ S L 0 x HQ.out HI.out HX.out xl)
                have hxS : x < S.length := by rw [HI.out.len, HSN.out]; exact xl
                have HS1 : Hid (Seen (addS S x) (m.globals ++ stacksTo m (S12.aliveTo m.st g))) := Lib.hid (HS.out.add x)
                have HT1 : Hid (Seen (addS S x) ((m.at g).stack.take (i + 1))) := Lib.hid (HT.out.take his hx hxS)
                have HI1 : Hid (QInv m 0 (addS S x) (addL S L x)) := Lib.hid (HI.out.add (Nat.zero_le _) xr (by rw [HSN.out]; exact xl))
                obtain ⟨gb, hgb⟩ : ∃ gb, A.gb g = gb := ⟨_, rfl⟩
                obtain ⟨sb, hsb⟩ : ∃ sb, A.sk g = sb := ⟨_, rfl⟩
                rw [hgb] at rcell g0 g4 glt
                rw [hsb] at g4 slt sc
                clear hB hK hst sl hx hxm xr hxS his hgb hsb
                go_wp2_with fail
                refine KA1.out.mono ?_
                rintro e w3 ⟨v', rfl, hq, hc⟩
                have HQ1 := Lib.hid hq
                have HX1 := Lib.hid (ex_chgB HB.out HX.out hc)
                clear hq hc
                go_wp2
                go_roundw
                case rel => exact ⟨i + 1, _, _, by omega, by go_num, HQ1.out, HI1.out, HS1.out, HT1.out, HX1.out⟩
                case measure => simp [intOf]; omega
              · obtain rfl : i = 16 := by omega
                have HS1 : Hid (Seen S (m.globals ++ stacksTo m (S12.aliveTo m.st (g + 1)))) := Lib.hid (by
                  rw [S12.alive_hit (by rw [hst]; exact h5), stacks_snoc, ← List.append_assoc]
                  have := HT.out
                  rw [show (m.at g).stack.take 16 = (m.at g).stack by rw [← sl, List.take_length]] at this
                  exact HS.out.app this)
                clear hB hK hst sl
                go_wp2_with fail
                go_roundw
                case rel => exact ⟨g + 1, S, L, by omega, by go_num, HQ.out, HI.out, HS1.out, HX.out⟩
                case measure => simp [intOf]; omega
        · obtain rfl : g = gk := by omega
          have HS1 : Hid (Seen S (rootsM m)) := Lib.hid (by
            have := HS.out
            rw [← HGK.out, ← HV.out.st] at this; exact this)
          have e5 : ¬ ((g : Int) < (g : Int)) := by omega
          clear HS c3 c4
          go_wp2_with fail
          clear c2
          go_loopw [4, 8] (fun lv kv wr => ∃ (k : Nat) (S : List Bool) (L : List Nat), k ≤ L.length ∧ kv = .int .i64 k ∧ QM B wr B sn lv S L ∧ QInv m k S L ∧ Seen S (rootsM m) ∧ Ex w wr) (fun _ kv _ => sn - (intOf kv).toNat)
          case atStart => exact ⟨0, S, L, Nat.zero_le _, rfl, HQ.out, HI.out, HS1.out, HX.out⟩
          case round =>
            clear HQ HI HS1 HX
            obtain ⟨k, S, L, hk, rfl, hq, hi, hs, hx⟩ := hrel
            have HQ := Lib.hid hq
            have HI := Lib.hid hi
            have HS := Lib.hid hs
            have HX := Lib.hid hx
            have hle := hi.le
            rw [HSN.out] at hle
            clear hq hi hs hx
            by_cases hlt : k < L.length
            · obtain ⟨id, hid⟩ : ∃ x, L.getD k 0 = x := ⟨_, rfl⟩
              obtain ⟨id0, idl, ids⟩ := HI.out.mem id (getD_mem hlt hid)
              have HID := Lib.hid hid
              obtain ⟨zb, zc, hu4, zlt, zcap, zcell⟩ := rowI_at HQ.out.row hlt
              obtain ⟨ll, hll⟩ : ∃ n, L.length = n := ⟨_, rfl⟩
              rw [hll] at hlt hu4 hle
              have k1 : (k : Int) < (ll : Int) := by omega
              have HLL := Lib.hid hll
              obtain ⟨oa, oc, hov⟩ := T13.row_val (HM.out.slot id id0 idl).row
              obtain ⟨ol, hol⟩ : ∃ n, (m.slots.getD id []).length = n := ⟨_, rfl⟩
              have holn : (m.obj id).length = ol := hol
              rw [holn] at hov
              have hol9 : ol ≤ 1000 := hol ▸ HV.out.on id
              have HOL := Lib.hid hol
              have HOV := Lib.hid hov
              rw [hu4] at HQ ⊢
              clear hid hol holn hov zcell hll hu4
              go_wp2_with fail
              go_loopw [4, 9] (fun lv iv wr => ∃ (i : Nat) (S : List Bool) (L : List Nat), i ≤ ol ∧ iv = .int .i64 i ∧ QM B wr B sn lv S L ∧ QInv m k S L ∧ Seen S (rootsM m) ∧ Seen S ((m.slots.getD id []).take i) ∧ k < L.length ∧ L.getD k 0 = id ∧ Ex w wr) (fun _ iv _ => ol - (intOf iv).toNat)
              case atStart => exact ⟨0, S, L, Nat.zero_le _, rfl, HQ.out, HI.out, HS.out, by simpa using Seen.nil _, by rw [HLL.out]; exact hlt, HID.out, HX.out⟩
              case round =>
                clear HQ HI HS HX HLL HID hlt k1 zlt zcap ids hle hk
                obtain ⟨i, S, L, hil, rfl, hq, hi, hs, ht, hlt, hid, hx⟩ := hrel
                have HQ := Lib.hid hq
                have HI := Lib.hid hi
                have HS := Lib.hid hs
                have HT := Lib.hid ht
                have HX := Lib.hid hx
                have HID := Lib.hid hid
                obtain ⟨c2, c3, c4⟩ := CX.out wr hx
                have hle := hi.le
                rw [HSN.out] at hle
                obtain ⟨zb, zc, hu4, zlt, zcap, zcell⟩ := rowI_at hq.row hlt
                rw [hid] at zcell
                obtain ⟨lb, lc2, hlv, lbt, lcap, lcell⟩ := (HM.out.exs hx).lvat id0 idl
                rw [hlv, HSN.out] at c4
                rw [HSN.out] at lcap
                rw [HOV.out] at lcell
                obtain ⟨ll, hll⟩ : ∃ n, L.length = n := ⟨_, rfl⟩
                rw [hll] at hlt hu4 hle zcap
                have HLL := Lib.hid hll
                have HLT := Lib.hid hlt
                have idl2 := idl
                rw [HSN.out] at idl2
                have k0 : (0 : Int) ≤ (k : Int) := by omega
                have k1 : (k : Int) < (ll : Int) := by omega
                have ei : IntKind.i64.wrap ((id : Int) - 1) = ((id - 1 : Nat) : Int) := by rw [IntKind.wrap_i64]; omega
                have ei0 : (0 : Int) ≤ ((id - 1 : Nat) : Int) := by omega
                have ei1 : ((id - 1 : Nat) : Int) < ((sn - 1 : Nat) : Int) := by omega
                subst hu4
                clear hq hi hs ht hx hid hlv hll c2 c3
                by_cases hio : i < ol
                · have hio2 : (i : Int) < (ol : Int) := by omega
                  have hio0 : (0 : Int) ≤ (i : Int) := by omega
                  have hioL : i < (m.slots.getD id []).length := by rw [HOL.out]; exact hio
                  obtain ⟨x, hxx⟩ : ∃ x, (m.slots.getD id []).getD i 0 = x := ⟨_, rfl⟩
                  obtain ⟨ob, ocap, ho, olt, ocp, ocell0⟩ := prow_at ((HM.out.exs HX.out).slot id id0 idl) (j := i) hioL
                  rw [HOV.out] at ho
                  injection ho with e1 e2 e3
                  subst e1
                  have ocell : wr.cell? ⟨ob, i, none⟩ = some (.int .i64 (x : Nat)) := by rw [← hxx]; exact ocell0
                  have hxm := getD_mem hioL hxx
                  have xl : x < sn := by rw [← HSN.out]; exact HR.out.sl id x hxm
                  have xr : x = 0 ∨ Rch m x := (Nat.eq_zero_or_pos x).imp (fun h => h) (fun h0 => .step (HI.out.ok id (HI.out.mem id (getD_mem (by rw [HLL.out]; exact hlt) HID.out)).2.2) hxm (by omega))
                  have hxS : x < S.length := by rw [HI.out.len, HSN.out]; exact xl
                  have KA2 := Lib.hid (fun (W : World) (z : Ex wr W) => KA.out W _ S L k x (HQ.out.ex z) HI.out (HX.out.trans z) xl)
                  have HI1 : Hid (QInv m k (addS S x) (addL S L x)) := Lib.hid (HI.out.add (by rw [HLL.out]; omega) xr (by rw [HSN.out]; exact xl))
                  have HS1 : Hid (Seen (addS S x) (rootsM m)) := Lib.hid (HS.out.add x)
                  have HT1 : Hid (Seen (addS S x) ((m.slots.getD id []).take (i + 1))) := Lib.hid (HT.out.take hioL hxx hxS)
                  have HL1 : Hid (k < (addL S L x).length ∧ (addL S L x).getD k 0 = id) := Lib.hid ⟨Nat.lt_of_lt_of_le (by rw [HLL.out]; exact hlt) (addL_le S L x), by rw [addL_at S L x k (by rw [HLL.out]; exact hlt)]; exact HID.out⟩
                  clear hioL hxx e2 e3 ocp ocell0 hxm xl xr hxS
                  go_wp2_with fail
                  go_quiet (fail)
                  go_upto_region 20 with fail
                  have HZ : Hid (Ex wr (wr.drewN (nq + 1))) := Lib.hid (Ex.drawn wr (nq + 1))
                  go_region_with (go_at_call 77; refine (KA2.out _ HZ.out).mono ?_; rintro e w3 ⟨v', rfl, hq, hc⟩; have HQ1 := Lib.hid hq; have HX1 := Lib.hid (ex_chgB HB.out (HX.out.trans HZ.out) hc); clear hq hc)
                  all_goals
                    go_wp2
                    go_roundw
                    case rel => exact ⟨i + 1, _, _, by omega, by go_num, HQ1.out, HI1.out, HS1.out, HT1.out, HL1.out.1, HL1.out.2, HX1.out⟩
                    case measure => simp [intOf]; omega
                · obtain rfl : i = ol := by omega
                  have e6 : ¬ ((i : Int) < (i : Int)) := by omega
                  have HP : Hid (QInv m (k + 1) S L) := Lib.hid (HI.out.pop (by rw [HLL.out]; exact hlt) HID.out (fun y hy => by
                    have := HT.out
                    rw [show (m.slots.getD id []).take i = m.slots.getD id [] by rw [← HOL.out, List.take_length]] at this
                    exact this y hy))
                  have HKL : Hid (k + 1 ≤ L.length) := Lib.hid (by rw [HLL.out]; exact hlt)
                  go_wp2_with fail
                  go_quiet (fail)
                  go_wp2
                  go_roundw
                  case rel => exact ⟨k + 1, S, L, HKL.out, by go_num, HQ.out.ex (Ex.drawn _ _), HP.out, HS.out, HX.out.trans (Ex.drawn _ _)⟩
                  case measure => simp [intOf]; omega
            · obtain rfl : k = L.length := by omega
              have hd := HI.out.done HS.out
              have HOUT := Lib.hid hd.out
              rw [HSN.out] at HOUT
              have hslen := hd.len
              rw [HSN.out] at hslen
              have HS0 := Lib.hid (seen_1 HI.out.s0)
              obtain ⟨zo, zc, hz⟩ := T13.row_val HQ.out.row
              obtain ⟨ll, hll⟩ : ∃ n, L.length = n := ⟨_, rfl⟩
              rw [hll] at hz hk hlt
              rw [hz] at HQ ⊢
              rw [hll]
              have e7 : ¬ ((ll : Int) < (ll : Int)) := by omega
              clear hd HI HS hz hll hle hk hlt KA HRT
              go_wp2_with fail
              go_loopw [10, 11] (fun v i W3 => ∃ j : Nat, 1 ≤ j ∧ j ≤ sn ∧ i = .int .i64 j ∧ RowI W3 wr.heap.size v (seenTo S j) ∧ Ex wr W3) (fun _ i _ => sn - (intOf i).toNat)
              case atStart => exact ⟨1, Nat.le_refl _, hsn0, rfl, by rw [HS0.out]; exact World.ownsRow_nil _ _ _ _, Ex.refl _⟩
              case round =>
                obtain ⟨j, hj1, hj, rfl, ho, hxx⟩ := hrel
                have HO := Lib.hid ho
                have HXX := Lib.hid (HX.out.trans hxx)
                have HB2 := Lib.hid (HQ.out.box.ex hxx)
                have HX2 := Lib.hid hxx
                clear ho hxx
                by_cases hlt : j < sn
                · have hc := HB2.out.cell j
                  rw [bools_at S (by rw [hslen]; exact hlt)] at hc
                  have hle := seen_le S j
                  have j0 : (0 : Int) ≤ (j : Int) := by omega
                  have j1 : (j : Int) < (sn : Int) := by omega
                  have blt := HB2.out.lt
                  cases hS : S.getD j false
                  · rw [hS] at hc
                    have s0 := Lib.hid (seen_miss hS)
                    clear hS
                    go_wp2_with fail
                    go_roundw
                    case rel => exact ⟨j + 1, by omega, by omega, by go_num, by rw [s0.out]; exact HO.out, HX2.out⟩
                    case measure => simp [intOf]; omega
                  · rw [hS] at hc
                    have s0 := Lib.hid (seen_hit hS)
                    obtain ⟨Q, hQ⟩ : ∃ Q, seenTo S j = Q := ⟨_, rfl⟩
                    rw [hQ] at HO hle s0
                    have HQ2 := Lib.hid (HO.out.ex (Ex.made wr (.cells #[.int .i64 (j : Nat)] 3)))
                    have HR1 := Lib.hid (rn_one wr j)
                    have HXm := Lib.hid (HX2.out.trans (Ex.made wr (.cells #[.int .i64 (j : Nat)] 3)))
                    clear hS hQ
                    go_wp2_with (at_builtin; refine wpList_append_I _ rfl (.tmp 129) (.tmp 131) rfl (l := Q) (M := [j]) rfl HQ2.out HXm.out.size rfl HR1.out (by simp; omega) ?_)
                    intro v' w4 h6 h7 h8
                    rw [← s0.out] at h6
                    have S0 := Lib.hid h6
                    have S1 := Lib.hid (ex_grownI HQ2.out HXm.out HXm.out.size h7)
                    clear h6 h7 h8
                    go_wp2
                    go_roundw
                    case rel => exact ⟨j + 1, by omega, by omega, by go_num, S0.out, S1.out⟩
                    case measure => simp [intOf]; omega
                · obtain rfl : j = sn := by omega
                  have e8 : ¬ ((j : Int) < (j : Int)) := by omega
                  rw [HOUT.out] at HO
                  go_wp2_with fail
                  go_ret
                  exact ⟨_, rfl, HO.out.base HX.out.size, HXX.out⟩

end Go.Proofs.YtmlobpapjfkbmaaGreat

/- The document's Do, where nothing is done; its Next of the dead; the program's Next of the dead, its Stack. -/
namespace Go.Proofs.YtmlobpapjfkbmaaGreat
open Go.RowKit
set_option linter.unusedVariables false
set_option maxRecDepth 20000
set_option linter.unusedSimpArgs false

theorem nocm_box {w : World} : Box (w.alloc (.cells #[.int .i64 0, .int .i64 0, .int .i64 0, .int .i64 0, .int .i64 0, .bool false] 50)) w.heap.size #[.int .i64 0, .int .i64 0, .int .i64 0, .int .i64 0, .int .i64 0, .bool false] 50 := Box.fresh _ _ _

set_option maxHeartbeats 6400000 in
theorem rdo_nobody {w : World} {A : RA} {t : Nat → Tg} {xb : Nat} {F : Fns} {m : MS} (h : Rf w A t xb F m) {g : Int} (hg : g < 0 ∨ (0 ≤ g ∧ (m.gs.length : Int) ≤ g)) :
    Calls Tryz.prog 13 #[.pointer (some ⟨xb, 0, none⟩), .int .i64 g] w fun e w' => e = .returned (.tuple #[noCm, .int .i64 4]) ∧ Ex w w' := by
  have c2 : w.cell? ⟨xb, 2, none⟩ = some A.gv := h.box.box.cell 2
  obtain ⟨va, vc, hgv⟩ := T13.row_val h.grow.row
  rw [hgv] at c2
  have xlt := h.box.box.lt
  obtain ⟨k, hk⟩ : ∃ k, m.gs.length = k := ⟨_, rfl⟩
  rw [hk] at c2 hg
  have B0 := Lib.hid (nocm_box (w := w))
  have X0 := Lib.hid (Ex.made w (.cells #[.int .i64 0, .int .i64 0, .int .i64 0, .int .i64 0, .int .i64 0, .bool false] 50))
  unfold noCm
  clear h hgv hk
  rcases hg with hg | ⟨h0, hg⟩
  · go_enter Tryz.func13, Tryz.ntmps13
    go_wp2_with fail
    have z0 : (w.alloc (.cells #[.int .i64 0, .int .i64 0, .int .i64 0, .int .i64 0, .int .i64 0, .bool false] 50)).cell? ⟨w.heap.size, 0, none⟩ = some (.int .i64 0) := B0.out.cell 0
    have z1 : (w.alloc (.cells #[.int .i64 0, .int .i64 0, .int .i64 0, .int .i64 0, .int .i64 0, .bool false] 50)).cell? ⟨w.heap.size, 1, none⟩ = some (.int .i64 0) := B0.out.cell 1
    have z2 : (w.alloc (.cells #[.int .i64 0, .int .i64 0, .int .i64 0, .int .i64 0, .int .i64 0, .bool false] 50)).cell? ⟨w.heap.size, 2, none⟩ = some (.int .i64 0) := B0.out.cell 2
    have z3 : (w.alloc (.cells #[.int .i64 0, .int .i64 0, .int .i64 0, .int .i64 0, .int .i64 0, .bool false] 50)).cell? ⟨w.heap.size, 3, none⟩ = some (.int .i64 0) := B0.out.cell 3
    have z4 : (w.alloc (.cells #[.int .i64 0, .int .i64 0, .int .i64 0, .int .i64 0, .int .i64 0, .bool false] 50)).cell? ⟨w.heap.size, 4, none⟩ = some (.int .i64 0) := B0.out.cell 4
    have z5 : (w.alloc (.cells #[.int .i64 0, .int .i64 0, .int .i64 0, .int .i64 0, .int .i64 0, .bool false] 50)).cell? ⟨w.heap.size, 5, none⟩ = some (.bool false) := B0.out.cell 5
    generalize (w.alloc (.cells #[.int .i64 0, .int .i64 0, .int .i64 0, .int .i64 0, .int .i64 0, .bool false] 50)) = Z at z0 z1 z2 z3 z4 z5 X0 ⊢
    exact bodyPost_ret (v := .tuple #[.agg #[.int .i64 0, .int .i64 0, .int .i64 0, .int .i64 0, .int .i64 0, .bool false], .int .i64 4]) (by simp [results, Tryz.results13, go_sem, z0, z1, z2, z3, z4, z5]) rfl ⟨rfl, X0.out⟩
  · have i0 : ¬ g < 0 := by omega
    go_enter Tryz.func13, Tryz.ntmps13
    go_wp2_with fail
    have z0 : (w.alloc (.cells #[.int .i64 0, .int .i64 0, .int .i64 0, .int .i64 0, .int .i64 0, .bool false] 50)).cell? ⟨w.heap.size, 0, none⟩ = some (.int .i64 0) := B0.out.cell 0
    have z1 : (w.alloc (.cells #[.int .i64 0, .int .i64 0, .int .i64 0, .int .i64 0, .int .i64 0, .bool false] 50)).cell? ⟨w.heap.size, 1, none⟩ = some (.int .i64 0) := B0.out.cell 1
    have z2 : (w.alloc (.cells #[.int .i64 0, .int .i64 0, .int .i64 0, .int .i64 0, .int .i64 0, .bool false] 50)).cell? ⟨w.heap.size, 2, none⟩ = some (.int .i64 0) := B0.out.cell 2
    have z3 : (w.alloc (.cells #[.int .i64 0, .int .i64 0, .int .i64 0, .int .i64 0, .int .i64 0, .bool false] 50)).cell? ⟨w.heap.size, 3, none⟩ = some (.int .i64 0) := B0.out.cell 3
    have z4 : (w.alloc (.cells #[.int .i64 0, .int .i64 0, .int .i64 0, .int .i64 0, .int .i64 0, .bool false] 50)).cell? ⟨w.heap.size, 4, none⟩ = some (.int .i64 0) := B0.out.cell 4
    have z5 : (w.alloc (.cells #[.int .i64 0, .int .i64 0, .int .i64 0, .int .i64 0, .int .i64 0, .bool false] 50)).cell? ⟨w.heap.size, 5, none⟩ = some (.bool false) := B0.out.cell 5
    generalize (w.alloc (.cells #[.int .i64 0, .int .i64 0, .int .i64 0, .int .i64 0, .int .i64 0, .bool false] 50)) = Z at z0 z1 z2 z3 z4 z5 X0 ⊢
    exact bodyPost_ret (v := .tuple #[.agg #[.int .i64 0, .int .i64 0, .int .i64 0, .int .i64 0, .int .i64 0, .bool false], .int .i64 4]) (by simp [results, Tryz.results13, go_sem, z0, z1, z2, z3, z4, z5]) rfl ⟨rfl, X0.out⟩

set_option maxHeartbeats 6400000 in
theorem rdo_cant {w : World} {A : RA} {t : Nat → Tg} {xb : Nat} {F : Fns} {m : MS} (h : Rf w A t xb F m) {g : Nat} (hg : g < m.gs.length) (h1 : m.st.getD g 0 ≠ 1) :
    Calls Tryz.prog 13 #[.pointer (some ⟨xb, 0, none⟩), .int .i64 (g : Nat)] w fun e w' => e = .returned (.tuple #[noCm, .int .i64 5]) ∧ Ex w w' := by
  have c2 : w.cell? ⟨xb, 2, none⟩ = some A.gv := h.box.box.cell 2
  obtain ⟨rb, rc, hgv, rlt, rcap, rcell⟩ := h.gvat hg
  rw [hgv] at c2
  have xlt := h.box.box.lt
  have hB := (h.gor g hg).box
  obtain ⟨s, hs⟩ : ∃ s, m.st.getD g 0 = s := ⟨_, rfl⟩
  have g0 : w.cell? ⟨A.gb g, 0, none⟩ = some (.int .i64 (s : Nat)) := by rw [hB.cell, ← hs]; rfl
  have glt := hB.lt
  rw [hs] at h1
  obtain ⟨k, hk⟩ : ∃ k, m.gs.length = k := ⟨_, rfl⟩
  rw [hk] at c2 hg rcap
  obtain ⟨gb, hgb⟩ : ∃ gb, A.gb g = gb := ⟨_, rfl⟩
  rw [hgb] at rcell g0 glt
  have B0 := Lib.hid (nocm_box (w := w))
  have X0 := Lib.hid (Ex.made w (.cells #[.int .i64 0, .int .i64 0, .int .i64 0, .int .i64 0, .int .i64 0, .bool false] 50))
  have d1 : ((s : Int) != 1) = true := by simp; omega
  have i0 : ¬ (g : Int) < 0 := by omega
  have i00 : (0 : Int) ≤ (g : Int) := by omega
  have i1 : (g : Int) < (k : Int) := by omega
  have i2 : ¬ (k : Int) ≤ (g : Int) := by omega
  unfold noCm
  clear h hgv hk hB hs hgb
  by_cases hh : True
  · go_enter Tryz.func13, Tryz.ntmps13
    go_wp2_with fail
    have z0 : (w.alloc (.cells #[.int .i64 0, .int .i64 0, .int .i64 0, .int .i64 0, .int .i64 0, .bool false] 50)).cell? ⟨w.heap.size, 0, none⟩ = some (.int .i64 0) := B0.out.cell 0
    have z1 : (w.alloc (.cells #[.int .i64 0, .int .i64 0, .int .i64 0, .int .i64 0, .int .i64 0, .bool false] 50)).cell? ⟨w.heap.size, 1, none⟩ = some (.int .i64 0) := B0.out.cell 1
    have z2 : (w.alloc (.cells #[.int .i64 0, .int .i64 0, .int .i64 0, .int .i64 0, .int .i64 0, .bool false] 50)).cell? ⟨w.heap.size, 2, none⟩ = some (.int .i64 0) := B0.out.cell 2
    have z3 : (w.alloc (.cells #[.int .i64 0, .int .i64 0, .int .i64 0, .int .i64 0, .int .i64 0, .bool false] 50)).cell? ⟨w.heap.size, 3, none⟩ = some (.int .i64 0) := B0.out.cell 3
    have z4 : (w.alloc (.cells #[.int .i64 0, .int .i64 0, .int .i64 0, .int .i64 0, .int .i64 0, .bool false] 50)).cell? ⟨w.heap.size, 4, none⟩ = some (.int .i64 0) := B0.out.cell 4
    have z5 : (w.alloc (.cells #[.int .i64 0, .int .i64 0, .int .i64 0, .int .i64 0, .int .i64 0, .bool false] 50)).cell? ⟨w.heap.size, 5, none⟩ = some (.bool false) := B0.out.cell 5
    generalize (w.alloc (.cells #[.int .i64 0, .int .i64 0, .int .i64 0, .int .i64 0, .int .i64 0, .bool false] 50)) = Z at z0 z1 z2 z3 z4 z5 X0 ⊢
    exact bodyPost_ret (v := .tuple #[.agg #[.int .i64 0, .int .i64 0, .int .i64 0, .int .i64 0, .int .i64 0, .bool false], .int .i64 5]) (by simp [results, Tryz.results13, go_sem, z0, z1, z2, z3, z4, z5]) rfl ⟨rfl, X0.out⟩
  · exact absurd trivial hh

set_option maxHeartbeats 6400000 in
theorem rnext_dead {w : World} {A : RA} {t : Nat → Tg} {xb : Nat} {F : Fns} {m : MS} (h : Rf w A t xb F m) {g : Nat} (hg : g < m.gs.length) (h5 : m.st.getD g 0 = 5) :
    Calls Tryz.prog 32 #[.pointer (some ⟨xb, 0, none⟩), .int .i64 (g : Nat)] w fun e w' => e = .returned (.tuple #[instV (0, 0, 0, 0), .bool false]) ∧ Ex w w' := by
  have c2 : w.cell? ⟨xb, 2, none⟩ = some A.gv := h.box.box.cell 2
  obtain ⟨rb, rc, hgv, rlt, rcap, rcell⟩ := h.gvat hg
  rw [hgv] at c2
  have xlt := h.box.box.lt
  have hB := (h.gor g hg).box
  have g0 : w.cell? ⟨A.gb g, 0, none⟩ = some (.int .i64 5) := by rw [hB.cell]; show some (Value.int .i64 ((m.st.getD g 0 : Nat) : Int)) = _; rw [h5]; rfl
  have glt := hB.lt
  obtain ⟨k, hk⟩ : ∃ k, m.gs.length = k := ⟨_, rfl⟩
  rw [hk] at c2 hg rcap
  obtain ⟨gb, hgb⟩ : ∃ gb, A.gb g = gb := ⟨_, rfl⟩
  rw [hgb] at rcell g0 glt
  have i0 : ¬ (g : Int) < 0 := by omega
  have i00 : (0 : Int) ≤ (g : Int) := by omega
  have i1 : (g : Int) < (k : Int) := by omega
  have i2 : ¬ (k : Int) ≤ (g : Int) := by omega
  unfold instV
  clear h hgv hk hB hgb h5
  go_enter Tryz.func32, Tryz.ntmps32
  go_wp2_with fail
  have B0 := Lib.hid (Box.fresh w #[.int .i64 0, .int .i64 0, .int .i64 0, .int .i64 0] 58)
  have X0 := Lib.hid (Ex.made w (.cells #[.int .i64 0, .int .i64 0, .int .i64 0, .int .i64 0] 58))
  have z0 : (w.alloc (.cells #[.int .i64 0, .int .i64 0, .int .i64 0, .int .i64 0] 58)).cell? ⟨w.heap.size, 0, none⟩ = some (.int .i64 0) := B0.out.cell 0
  have z1 : (w.alloc (.cells #[.int .i64 0, .int .i64 0, .int .i64 0, .int .i64 0] 58)).cell? ⟨w.heap.size, 1, none⟩ = some (.int .i64 0) := B0.out.cell 1
  have z2 : (w.alloc (.cells #[.int .i64 0, .int .i64 0, .int .i64 0, .int .i64 0] 58)).cell? ⟨w.heap.size, 2, none⟩ = some (.int .i64 0) := B0.out.cell 2
  have z3 : (w.alloc (.cells #[.int .i64 0, .int .i64 0, .int .i64 0, .int .i64 0] 58)).cell? ⟨w.heap.size, 3, none⟩ = some (.int .i64 0) := B0.out.cell 3
  generalize (w.alloc (.cells #[.int .i64 0, .int .i64 0, .int .i64 0, .int .i64 0] 58)) = Z at z0 z1 z2 z3 X0 ⊢
  exact bodyPost_ret (v := .tuple #[.agg #[.int .i64 0, .int .i64 0, .int .i64 0, .int .i64 0], .bool false]) (by simp [results, Tryz.results32, go_sem, z0, z1, z2, z3]) rfl ⟨rfl, X0.out⟩

set_option maxHeartbeats 6400000 in
theorem next_dead {w : World} {A : Adr} {t : Nat → Tg} {mb : Nat} {F : Fns} {m : MS} (h : Md w A t mb F m) {g : Nat} (h5 : staI m g = 5) :
    Calls Tryz.prog 28 #[.pointer (some ⟨mb, 0, none⟩), .int .i64 (g : Nat)] w fun e w' => e = .returned (.tuple #[instV (0, 0, 0, 0), .bool false]) ∧ Ex w w' := by
  have K := Lib.hid (fun W (x : Ex w W) => state_any (h.exs x) g 5 h5)
  rw [show ((5 : Nat) : Int) = 5 from rfl] at K
  unfold instV
  clear h h5
  go_enter Tryz.func28, Tryz.ntmps28
  go_wp2_with fail
  refine (K.out _ (Ex.made _ _)).mono ?_
  rintro e w' ⟨rfl, rfl⟩
  go_wp2_with fail
  have B0 := Lib.hid (Box.fresh w #[.int .i64 0, .int .i64 0, .int .i64 0, .int .i64 0] 58)
  have X0 := Lib.hid (Ex.made w (.cells #[.int .i64 0, .int .i64 0, .int .i64 0, .int .i64 0] 58))
  have z0 : (w.alloc (.cells #[.int .i64 0, .int .i64 0, .int .i64 0, .int .i64 0] 58)).cell? ⟨w.heap.size, 0, none⟩ = some (.int .i64 0) := B0.out.cell 0
  have z1 : (w.alloc (.cells #[.int .i64 0, .int .i64 0, .int .i64 0, .int .i64 0] 58)).cell? ⟨w.heap.size, 1, none⟩ = some (.int .i64 0) := B0.out.cell 1
  have z2 : (w.alloc (.cells #[.int .i64 0, .int .i64 0, .int .i64 0, .int .i64 0] 58)).cell? ⟨w.heap.size, 2, none⟩ = some (.int .i64 0) := B0.out.cell 2
  have z3 : (w.alloc (.cells #[.int .i64 0, .int .i64 0, .int .i64 0, .int .i64 0] 58)).cell? ⟨w.heap.size, 3, none⟩ = some (.int .i64 0) := B0.out.cell 3
  generalize (w.alloc (.cells #[.int .i64 0, .int .i64 0, .int .i64 0, .int .i64 0] 58)) = Z at z0 z1 z2 z3 X0 ⊢
  exact bodyPost_ret (v := .tuple #[.agg #[.int .i64 0, .int .i64 0, .int .i64 0, .int .i64 0], .bool false]) (by simp [results, Tryz.results28, go_sem, z0, z1, z2, z3]) rfl ⟨rfl, X0.out⟩

set_option maxHeartbeats 6400000 in
theorem stack_in {w : World} {A : Adr} {t : Nat → Tg} {mb : Nat} {F : Fns} {m : MS} (h : Md w A t mb F m) {g : Nat} (hg : g < m.gs.length) (hl : (m.at g).stack.length = 16) (hk1 : m.gs.length ≤ 1024) :
    Calls Tryz.prog 40 #[.pointer (some ⟨mb, 0, none⟩), .int .i64 (g : Nat)] w (RowOut w (m.at g).stack) := by
  have c3 : w.cell? ⟨mb, 3, none⟩ = some A.gv := h.box.box.cell 3
  obtain ⟨rb, rc, hgv, rlt, rcap, rcell⟩ := h.gvat hg
  rw [hgv] at c3
  have K := Lib.hid (clone_any (stack_rn h (Ex.refl w) hg hl) (by rw [hl]; omega))
  have glt := (h.gor g hg).box.lt
  obtain ⟨k, hk⟩ : ∃ k, m.gs.length = k := ⟨_, rfl⟩
  rw [hk] at c3 hg rcap hk1
  obtain ⟨gb, hgb⟩ : ∃ gb, A.gb g = gb := ⟨_, rfl⟩
  rw [hgb] at rcell glt K
  have i0 : ¬ (g : Int) < 0 := by omega
  have i00 : (0 : Int) ≤ (g : Int) := by omega
  have i1 : (g : Int) < (k : Int) := by omega
  have i2 : ¬ (k : Int) ≤ (g : Int) := by omega
  clear h hgv hk hgb
  go_enter Tryz.func40, Tryz.ntmps40
  go_wp2_with fail
  refine K.out.mono ?_
  rintro e w' ⟨u, rfl, hu, hx⟩
  have HU := Lib.hid hu
  have HX := Lib.hid hx
  clear hu hx
  go_wp2
  go_ret
  exact ⟨_, rfl, HU.out, HX.out⟩

end Go.Proofs.YtmlobpapjfkbmaaGreat

