/- Part 16 of what is proved of the program of layer 16: RPlainE16, ROtherA16, RWake16, RHas16, ROtherB16, RWait16, In2P16, RchQ16, RAddQ16. -/
import Derived.Test.YtmlobpapjfkbmaaGreatK15
import Derived.Test.YtmlobpapjfkbmaaGreatK11
import Derived.Test.YtmlobpapjfkbmaaGreatK7
import Derived.Deep.RegionWith
import Derived.Test.YtmlobpapjfkbmaaGreatK9
import Derived.Test.YtmlobpapjfkbmaaGreatK13
import Derived.Test.YtmlobpapjfkbmaaGreatK10
import Derived.Test.YtmlobpapjfkbmaaGreatK14
import Derived.Test.YtmlobpapjfkbmaaGreatK12
/- The document's plain: any instruction. -/
namespace Go.Proofs.YtmlobpapjfkbmaaGreat
open Go.RowKit
set_option linter.unusedVariables false
set_option maxRecDepth 20000
set_option linter.unusedSimpArgs false

/-- What an instruction leaves, ahead of what is done about what can't be. -/
def opB (m : MS) (g op a b c : Nat) : MS := if opBad m g op a b c = true then m.put g (x1 m g) else opM m g op a b c
/-- Is it one of plain's? -/
def isPl (op : Nat) : Prop := op ≠ 0 ∧ op ≠ 8 ∧ op ≠ 9 ∧ op ≠ 10 ∧ op ≠ 11 ∧ op ≠ 12
theorem put_at {m : MS} {g : Nat} (hg : g < m.gs.length) (x : GS) : (m.put g x).at g = x := by rw [at_set, if_pos ⟨rfl, hg⟩]
theorem put_put (m : MS) (g : Nat) (x y : GS) : (m.put g x).put g y = m.put g y := by unfold MS.put; simp only [List.set_set]
theorem put_put2 (m : MS) (g : Nat) (x y : GS) (S : List (List Nat)) : ({ m.put g x with slots := S } : MS).put g y = { m.put g y with slots := S } := by unfold MS.put; simp only [List.set_set]
theorem gs_put (m : MS) (g : Nat) (x : GS) : (m.put g x).gs.length = m.gs.length := List.length_set ..

set_option maxHeartbeats 1600000 in
theorem rpl_any {w : World} {A : RA} {t : Nat → Tg} {xb : Nat} {F : Fns} {gn n : Nat} {m : MS} {g : Nat} (h : Rf w A t xb F (m.put g (x1 m g))) (nw : New w t) {cb : Nat} {cc : CmI} (hc : CbR w A t cb cc 0) (I : Inv F gn n m) (hn : n ≤ 90000) (hgn : gn ≤ 32) (hg : g < m.gs.length) {op a b c : Nat} (f : Fit F gn op a b c) (hp : isPl op) :
    Calls Tryz.prog 33 #[.pointer (some ⟨xb, 0, none⟩), .int .i64 (g : Nat), .agg #[.int .i64 (op : Nat), .int .i64 (a : Nat), .int .i64 (b : Nat), .int .i64 (c : Nat)], .pointer (some ⟨cb, 0, none⟩)] w
      fun e w' => e = .returned (.bool true) ∧ REff w A t xb F cb cc (opB m g op a b c) (opV m g op a b c) (opBad m g op a b c) w' := by
  have e := put_at hg (x1 m g)
  have hg1 : g < (m.put g (x1 m g)).gs.length := by rw [gs_put]; exact hg
  have hn1 : (m.put g (x1 m g)).gs.length ≤ 1024 := by rw [gs_put]; exact I.g1k
  have hl1 : ((m.put g (x1 m g)).at g).stack.length = 16 := by rw [e]; exact (I.stk g hg).1
  have hv1 : ∀ a, ((m.put g (x1 m g)).at g).val a < (m.put g (x1 m g)).slots.length := by rw [e]; exact (I.stk g hg).2
  have on1 : ∀ i, ((m.put g (x1 m g)).slots.getD i []).length ≤ 1000 := fun i => Nat.le_trans (I.on i) (by omega)
  have sn1 : (m.put g (x1 m g)).slots.length ≤ 100000 := Nat.le_trans I.sn (by omega)
  have s01 : 1 ≤ (m.put g (x1 m g)).slots.length := I.s0
  have gl1 : (m.put g (x1 m g)).globals.length ≤ 32 := by show m.globals.length ≤ 32; rw [I.gl]; exact hgn
  have eB : opBad m g op a b c = false → opB m g op a b c = opM m g op a b c := fun h => if_neg (by rw [h]; simp)
  obtain ⟨ho, f1, f2, f3, f4, f5, f6, f7, f8, f9, f10, f11, f12⟩ := f
  obtain ⟨p0, p8, p9, p10, p11, p12⟩ := hp
  have hcases : op = 1 ∨ op = 2 ∨ op = 3 ∨ op = 4 ∨ op = 5 ∨ op = 6 ∨ op = 7 ∨ op = 13 ∨ op = 14 ∨ op = 15 ∨ op = 16 ∨ op = 17 := by omega
  rcases hcases with rfl | rfl | rfl | rfl | rfl | rfl | rfl | rfl | rfl | rfl | rfl | rfl
  · have k := rplain_1 h nw hc hg1 hn1 hl1 a b c (f1 (by omega)) (f4 rfl) sn1 s01
    rw [e, put_put2] at k
    rw [eB rfl]; exact k
  · have k := rplain_2 h nw hc hg1 hn1 hl1 a b c (f1 (by omega)) (f2 (by omega)) hv1 sn1 s01 on1
    rw [e, put_put] at k
    by_cases q : (m.at g).val b = 0 ∨ (m.slots.getD ((m.at g).val b) []).length ≤ c
    · have hb : opBad m g 2 a b c = true := decide_eq_true q
      have q' : (x1 m g).val b = 0 ∨ ((m.put g (x1 m g)).slots.getD ((x1 m g).val b) []).length ≤ c := q
      simp only [if_pos q'] at k
      have e1 : opB m g 2 a b c = m.put g (x1 m g) := if_pos hb
      have e2 : opV m g 2 a b c = 0 := if_pos hb
      rw [e1, e2, hb]; exact k
    · have hb : opBad m g 2 a b c = false := decide_eq_false q
      have q' : ¬ ((x1 m g).val b = 0 ∨ ((m.put g (x1 m g)).slots.getD ((x1 m g).val b) []).length ≤ c) := q
      simp only [if_neg q'] at k
      have e1 : opM m g 2 a b c = m.put g ((x1 m g).top a ((m.slots.getD ((x1 m g).val b) []).getD c 0)) := if_neg q
      have e2 : opV m g 2 a b c = (((m.slots.getD ((m.at g).val b) []).getD c 0 : Nat) : Int) := if_neg (by rw [hb]; simp)
      rw [eB hb, e1, e2, hb]; exact k
  · have k := rplain_3 h nw hc hg1 hn1 hl1 a b c (f1 (by omega)) (f3 rfl) hv1 sn1 s01 on1
    rw [e] at k
    by_cases q : (m.at g).val a = 0 ∨ (m.slots.getD ((m.at g).val a) []).length ≤ b
    · have hb : opBad m g 3 a b c = true := decide_eq_true q
      have q' : (x1 m g).val a = 0 ∨ ((m.put g (x1 m g)).slots.getD ((x1 m g).val a) []).length ≤ b := q
      simp only [if_pos q'] at k
      have e1 : opB m g 3 a b c = m.put g (x1 m g) := if_pos hb
      rw [e1, hb]; exact k
    · have hb : opBad m g 3 a b c = false := decide_eq_false q
      have q' : ¬ ((x1 m g).val a = 0 ∨ ((m.put g (x1 m g)).slots.getD ((x1 m g).val a) []).length ≤ b) := q
      simp only [if_neg q'] at k
      have e1 : opM m g 3 a b c = { m.put g (x1 m g) with slots := m.slots.set ((x1 m g).val a) ((m.slots.getD ((x1 m g).val a) []).set b ((x1 m g).val c)) } := if_neg q
      rw [eB hb, e1, hb]; exact k
  · have k := rplain_4 h nw hc hg1 hn1 hl1 a b c (f1 (by omega)) (f2 (by omega))
    rw [e, put_put] at k
    rw [eB rfl]; exact k
  · have k := rplain_5 h nw hc hg1 hn1 hl1 a b c (f1 (by omega))
    rw [e, put_put] at k
    rw [eB rfl]; exact k
  · have k := rplain_6 h nw hc hg1 hn1 hl1 a b c (f1 (by omega)) (by show b < m.globals.length; rw [I.gl]; exact f5 rfl) gl1
    rw [e, put_put] at k
    rw [eB rfl]; exact k
  · have k := rplain_7 h nw hc hg1 hn1 hl1 a b c (by show a < m.globals.length; rw [I.gl]; exact f6 rfl) (f2 (by omega)) gl1
    rw [e] at k
    rw [eB rfl]; exact k
  · have k := rplain_13 h nw hc hg1 hn1 hl1 a b c (f1 (by omega)) (f2 (by omega))
    rw [e] at k
    rw [eB rfl]; exact k
  · have k := rplain_14 h nw hc hg1 hn1 hl1 a b c
    rw [e, put_put] at k
    rw [eB rfl]; exact k
  · have k := rplain_15 h nw hc hg1 hn1 hl1 a b c (f1 (by omega)) (f2 (by omega))
    rw [e, put_put] at k
    rw [eB rfl]; exact k
  · have k := rplain_16 h nw hc hg1 hn1 hl1 a b c (f12 rfl).1 (f12 rfl).2
    rw [e, put_put] at k
    rw [eB rfl]; exact k
  · have k := rplain_17 h nw hc hg1 hn1 hl1 a b c (by rw [e]; exact Nat.le_trans (I.cnt g hg) (by omega))
    rw [e, put_put] at k
    rw [eB rfl]; exact k

/-- The others are not plain's. -/
theorem rpl_not {w : World} {A : RA} {t : Nat → Tg} {xb : Nat} {F : Fns} {m : MS} (h : Rf w A t xb F m) (nw : New w t) {cb : Nat} {g : Nat} (hg : g < m.gs.length) (hn : m.gs.length ≤ 1024) (op a b c : Nat) (ho : op < 18) (hp : ¬ isPl op) :
    Calls Tryz.prog 33 #[.pointer (some ⟨xb, 0, none⟩), .int .i64 (g : Nat), .agg #[.int .i64 (op : Nat), .int .i64 (a : Nat), .int .i64 (b : Nat), .int .i64 (c : Nat)], .pointer (some ⟨cb, 0, none⟩)] w
      fun e w' => e = .returned (.bool false) ∧ Ex w w' := by
  have hcases : op = 0 ∨ op = 8 ∨ op = 9 ∨ op = 10 ∨ op = 11 ∨ op = 12 := by unfold isPl at hp; omega
  rcases hcases with rfl | rfl | rfl | rfl | rfl | rfl
  · exact rplain_0 h nw hg hn a b c
  · exact rplain_8 h nw hg hn a b c
  · exact rplain_9 h nw hg hn a b c
  · exact rplain_10 h nw hg hn a b c
  · exact rplain_11 h nw hg hn a b c
  · exact rplain_12 h nw hg hn a b c

end Go.Proofs.YtmlobpapjfkbmaaGreat

/- The document's other: exit, yield. -/
namespace Go.Proofs.YtmlobpapjfkbmaaGreat
open Go.RowKit
set_option linter.unusedVariables false
set_option maxRecDepth 20000
set_option linter.unusedSimpArgs false

theorem put_same (m : MS) (g : Nat) : m.put g (m.at g) = m := by
  have : m.gs.set g (m.at g) = m.gs := by
    apply List.ext_getElem?
    intro i
    rw [List.getElem?_set]
    by_cases e : g = i
    · subst e
      by_cases hg : g < m.gs.length
      · rw [if_pos rfl, if_pos hg]; simp [MS.at, hg]
      · rw [if_pos rfl, if_neg hg, List.getElem?_eq_none (Nat.not_lt.1 hg)]
    · rw [if_neg e]
  unfold MS.put
  rw [this]
/-- A goroutine's state is written. -/
theorem rf_st {w W w' : World} {A : RA} {t : Nat → Tg} {xb : Nat} {F : Fns} {m : MS} (h : Rf w A t xb F m) {g : Nat} (hg : g < m.gs.length) (s : Nat)
    (y : Ex w W) (x : Ex (W.setCell ⟨A.gb g, 0, none⟩ (.int .i64 (s : Nat))) w') : Rf w' A t xb F { m with st := m.st.set g s } ∧ Chg (fun i => i = A.gb g) w w' := by
  have tg := (h.gor g hg).tag
  have ts := (h.stk g hg).tag
  have n3 : A.sk g ≠ A.gb g := fun e => by rw [e, tg] at ts; simp at ts
  have k : Chg (fun i => i = A.gb g) w w' := ((y.chg _).trans (Chg.cell (F := fun i => i = A.gb g) W ⟨A.gb g, 0, none⟩ _ rfl) (fun _ _ h => h)).ex x
  have R := h.gput g s (m.at g) ((((h.gor g hg).box.ex y).put 0 (.int .i64 (s : Nat))).ex x) ((h.stk g hg).box.chg k n3) k (by
    rintro i rfl
    left; rw [tg]; simp)
  rw [put_same] at R
  exact ⟨R, k⟩
theorem reff_st {w : World} {A : RA} {t : Nat → Tg} {xb : Nat} {F : Fns} {m : MS} {cb : Nat} {cc : CmI} {W w' : World} {v : Int} (h : Rf w A t xb F m) (n : New w t) (hc : CbR w A t cb cc v) {g : Nat} (hg : g < m.gs.length) (s : Nat)
    (y : Ex w W) (x : Ex (W.setCell ⟨A.gb g, 0, none⟩ (.int .i64 (s : Nat))) w') : REff w A t xb F cb cc { m with st := m.st.set g s } v false w' := by
  obtain ⟨R, k⟩ := rf_st h hg s y x
  have tg := (h.gor g hg).tag
  obtain ⟨n1, -⟩ := cb_rg h hc hg
  exact ⟨A, t, R, n.le k.size, fun _ _ => rfl, rfl, hc.box.chg k (fun e => n1 e.symm), k.weak (by rintro i - rfl; left; rw [tg]; simp)⟩

set_option maxHeartbeats 3200000 in
theorem rother_0 {w : World} {A : RA} {t : Nat → Tg} {xb : Nat} {F : Fns} {m : MS} (h : Rf w A t xb F m) (n : New w t) {cb : Nat} {cc : CmI} (hc : CbR w A t cb cc 0) {g : Nat} (hg : g < m.gs.length) (hn : m.gs.length ≤ 1024) (a b c : Nat) :
    Calls Tryz.prog 34 #[.pointer (some ⟨xb, 0, none⟩), .int .i64 (g : Nat), .agg #[.int .i64 0, .int .i64 (a : Nat), .int .i64 (b : Nat), .int .i64 (c : Nat)], .pointer (some ⟨cb, 0, none⟩)] w
      fun e w' => e = .returned (.tuple #[]) ∧ REff w A t xb F cb cc { m with st := m.st.set g 5 } 0 false w' := by
  have H := Lib.hid h
  have N := Lib.hid n
  have HC := Lib.hid hc
  have HG := Lib.hid hg
  have hB := (h.gor g hg).box
  obtain ⟨rb, rc, hgv, rlt, rcap, rcell⟩ := h.gvat hg
  have c2 : w.cell? ⟨xb, 2, none⟩ = some A.gv := h.box.box.cell 2
  rw [hgv] at c2
  have g0 : w.cell? ⟨A.gb g, 0, none⟩ = some (.int .i64 (m.st.getD g 0 : Nat)) := by rw [hB.cell]; rfl
  have f0 := hB.soft 0
  have hlt := hB.lt
  have xlt := h.box.box.lt
  obtain ⟨gl, hgl⟩ : ∃ gl, m.gs.length = gl := ⟨_, rfl⟩
  rw [hgl] at c2 rcap hn
  have i1 : (g : Int) < (gl : Int) := by have := HG.out; omega
  have i00 : (0 : Int) ≤ (g : Int) := by omega
  obtain ⟨gb, hgb⟩ : ∃ gb, A.gb g = gb := ⟨_, rfl⟩
  simp only [hgb] at rcell g0 f0 hlt
  have HGB := Lib.hid hgb
  clear h n hc hg hB hgv hgl hgb
  go_enter Tryz.func34, Tryz.ntmps34
  go_wp2_with fail
  rw [← HGB.out]
  exact Go.Great.bodyPost_end0 rfl rfl ⟨rfl, reff_st H.out N.out HC.out HG.out 5 (Ex.refl _) (Ex.made _ _)⟩

set_option maxHeartbeats 3200000 in
theorem rother_9 {w : World} {A : RA} {t : Nat → Tg} {xb : Nat} {F : Fns} {m : MS} (h : Rf w A t xb F m) (n : New w t) {cb : Nat} {cc : CmI} (hc : CbR w A t cb cc 0) {g : Nat} (hg : g < m.gs.length) (hn : m.gs.length ≤ 1024) (a b c : Nat) :
    Calls Tryz.prog 34 #[.pointer (some ⟨xb, 0, none⟩), .int .i64 (g : Nat), .agg #[.int .i64 9, .int .i64 (a : Nat), .int .i64 (b : Nat), .int .i64 (c : Nat)], .pointer (some ⟨cb, 0, none⟩)] w
      fun e w' => e = .returned (.tuple #[]) ∧ REff w A t xb F cb cc m 0 false w' := by
  have H := Lib.hid h
  have N := Lib.hid n
  have HC := Lib.hid hc
  have HG := Lib.hid hg
  have hB := (h.gor g hg).box
  obtain ⟨rb, rc, hgv, rlt, rcap, rcell⟩ := h.gvat hg
  have c2 : w.cell? ⟨xb, 2, none⟩ = some A.gv := h.box.box.cell 2
  rw [hgv] at c2
  have g0 : w.cell? ⟨A.gb g, 0, none⟩ = some (.int .i64 (m.st.getD g 0 : Nat)) := by rw [hB.cell]; rfl
  have f0 := hB.soft 0
  have hlt := hB.lt
  have xlt := h.box.box.lt
  obtain ⟨gl, hgl⟩ : ∃ gl, m.gs.length = gl := ⟨_, rfl⟩
  rw [hgl] at c2 rcap hn
  have i1 : (g : Int) < (gl : Int) := by have := HG.out; omega
  have i00 : (0 : Int) ≤ (g : Int) := by omega
  obtain ⟨gb, hgb⟩ : ∃ gb, A.gb g = gb := ⟨_, rfl⟩
  simp only [hgb] at rcell g0 f0 hlt
  have HGB := Lib.hid hgb
  clear h n hc hg hB hgv hgl hgb
  go_enter Tryz.func34, Tryz.ntmps34
  go_wp2_with fail
  exact Go.Great.bodyPost_end0 rfl rfl ⟨rfl, reff_ex H.out N.out HC.out (Ex.made _ _)⟩

end Go.Proofs.YtmlobpapjfkbmaaGreat

/- The document's Waits: Wake. -/
namespace Go.Proofs.YtmlobpapjfkbmaaGreat
open Go.RowKit
set_option linter.unusedVariables false
set_option maxRecDepth 20000
set_option linter.unusedSimpArgs false

theorem rcells_wv (A : RA) (k i : Nat) (hi : i < 32) : (rcells A k)[6 + i]? = some (A.wv i) := by
  rw [show 6 + i = i + 6 by omega]
  unfold rcells
  simp [List.getElem?_append, hi]
theorem rcells_wset (A : RA) (k i : Nat) (hi : i < 32) (v : Value) : (rcells A k).setIfInBounds (6 + i) v = rcells { A with wv := fun j => if j = i then v else A.wv j } k := by
  rw [show 6 + i = i + 6 by omega]
  apply Array.ext_getElem?
  intro j
  unfold rcells
  rw [Array.getElem?_setIfInBounds]
  by_cases e : i + 6 = j
  · subst e
    have q := rcells_wv { A with wv := fun j => if j = i then v else A.wv j } k i hi
    rw [show 6 + i = i + 6 by omega] at q
    unfold rcells at q
    rw [if_pos rfl, if_pos (by simp; omega), q]
    simp
  · rw [if_neg e]
    by_cases hj : j < 6
    · rcases (by omega : j = 0 ∨ j = 1 ∨ j = 2 ∨ j = 3 ∨ j = 4 ∨ j = 5) with rfl | rfl | rfl | rfl | rfl | rfl <;> rfl
    · obtain ⟨n, rfl⟩ : ∃ n, j = n + 6 := ⟨j - 6, by omega⟩
      have hn : ¬ n = i := by omega
      by_cases h32 : n < 32
      · simp [List.getElem?_append, h32, hn]
      · simp [List.getElem?_append, h32]
theorem Rn.tail' {w : World} {g off x : Nat} {l : List Nat} {cap : Nat} (h : Rn w (.slice (some ⟨g, off, none⟩) (l.length + 1) cap) (x :: l)) (ao : Option Addr) (hao : ao = if cap = 1 then some ⟨g, off, none⟩ else some ⟨g, off + 1, none⟩) : Rn w (.slice ao l.length (cap - 1)) l := by
  obtain ⟨a, c, e, h1, h2, h3⟩ := h
  simp only [Value.slice.injEq] at e
  obtain ⟨rfl, -, rfl⟩ := e
  simp only [List.length_cons] at h2 h3
  refine ⟨ao, cap - 1, rfl, fun h => ?_, by omega, fun j hj => ?_⟩
  · rw [hao] at h; split at h <;> cases h
  · obtain ⟨g', off', e, hg, hc⟩ := h3 (j + 1) (by omega)
    cases e
    refine ⟨g, off + 1, ?_, hg, ?_⟩
    · rw [hao, if_neg (by omega)]
    · rw [show off + 1 + j = off + (j + 1) by omega, hc]; rfl

def RWakeR (w : World) (A : RA) (t : Nat → Tg) (xb : Nat) (F : Fns) (m : MS) (a : Nat) (e : Ending) (w' : World) : Prop :=
  match m.wait.getD a [] with
  | [] => e = .returned (.tuple #[.int .i64 0, .bool false]) ∧ Ex w w'
  | x :: l => e = .returned (.tuple #[.int .i64 (x : Nat), .bool true]) ∧ ∃ v, Rf w' { A with wv := fun i => if i = a then v else A.wv i } t xb F { m with wait := m.wait.set a l } ∧ Chg (fun i => i = xb) w w'

theorem rwake_end {w W w' : World} {A : RA} {t : Nat → Tg} {xb : Nat} {F : Fns} {m : MS} (h : Rf w A t xb F m) {a : Nat} (ha : a < 32) {v : Value} {l : List Nat} (hr : Rn w v l) (ht : ∀ b, v.ownBlock = some b → t b = (12, a))
    (y : Ex w W) (x : Ex (W.setCell ⟨xb, 6 + a, none⟩ v) w') : Rf w' { A with wv := fun i => if i = a then v else A.wv i } t xb F { m with wait := m.wait.set a l } ∧ Chg (fun i => i = xb) w w' := by
  have k : Chg (fun i => i = xb) w w' := ((y.chg _).trans (Chg.cell (F := fun i => i = xb) W ⟨xb, 6 + a, none⟩ _ rfl) (fun _ _ h => h)).ex x
  have tx := h.box.tag
  refine ⟨h.wput a v l ha ?_ ?_ ht k (by rintro i rfl; left; rw [tx]; simp), k⟩
  · rw [← rcells_wset A m.clock a ha v]
    exact ((h.box.box.ex y).put (6 + a) v).ex x
  · exact hr.chg (P := fun i => i = xb) (fun b hb e => by have := ht b hb; rw [e, tx] at this; simp at this) k

set_option maxHeartbeats 6400000 in
theorem rwake_any {w : World} {A : RA} {t : Nat → Tg} {xb : Nat} {F : Fns} {m : MS} (h : Rf w A t xb F m) (hs : ∀ i, (m.wait.getD i []).length ≤ 100000) (a : Nat) (ha : a < 32) :
    Calls Tryz.prog 74 #[.pointer (some ⟨xb, 6, none⟩), .int .i64 (a : Nat)] w (RWakeR w A t xb F m a) := by
  have H := Lib.hid h
  have c6 : w.cell? ⟨xb, 6 + a, none⟩ = some (A.wv a) := (h.box.box.cell _).trans (rcells_wv A m.clock a ha)
  have f6 := h.box.box.soft (6 + a)
  have xlt := h.box.box.lt
  have hr := h.wait a ha
  have ht := h.watt a ha
  have hsa := hs a
  have i0 : ¬ (a : Int) < 0 := by omega
  have i1 : ¬ (31 : Int) < (a : Int) := by omega
  have i2 : (a : Int) < 32 := by omega
  have i3 : (0 : Int) ≤ (a : Int) := by omega
  unfold RWakeR
  obtain ⟨l, hl⟩ : ∃ l, m.wait.getD a [] = l := ⟨_, rfl⟩
  have hr2 : Rn w (A.wv a) l := by
    have : m.wat a = l := hl
    rw [this] at hr; exact hr
  rw [hl] at hsa ⊢
  obtain ⟨v, hv⟩ : ∃ v, A.wv a = v := ⟨_, rfl⟩
  rw [hv] at c6 hr2 ht
  have HRn := Lib.hid hr2
  have HT := Lib.hid ht
  cases l with
  | nil =>
    obtain ⟨va, vc, rfl, -⟩ := hr2
    clear h hr hv hl ht hs
    go_enter Tryz.func74, Tryz.ntmps74
    go_wp2_with fail
    exact bodyPost_ret (v := .tuple #[.int .i64 0, .bool false]) (by simp [results, Tryz.results74, go_sem]) rfl ⟨rfl, Ex.refl _⟩
  | cons x l =>
    obtain ⟨va, cap, rfl, -, hcap, hc⟩ := hr2
    obtain ⟨g, off, rfl, glt, c0⟩ := hc 0 (by simp)
    have c0 : w.cell? ⟨g, off, none⟩ = some (.int .i64 (x : Nat)) := c0
    simp only [List.length_cons] at c6 hcap HRn hsa
    obtain ⟨k, hk⟩ : ∃ k, l.length = k := ⟨_, rfl⟩
    have HTl : Hid (∀ ao, ao = (if cap = 1 then some (⟨g, off, none⟩ : Addr) else some ⟨g, off + 1, none⟩) → Rn w (.slice ao k (cap - 1)) l) := Lib.hid (fun ao h => hk ▸ Rn.tail' HRn.out ao h)
    rw [hk] at c6 hcap HRn hsa
    have k1 : (0 : Int) < (k : Int) + 1 := by omega
    have kb : ((k : Int) + 1 == 0) = false := by simp; omega
    clear h hr hv hl ht hs hc hk
    go_enter Tryz.func74, Tryz.ntmps74
    go_upto_region 4 with fail
    go_region
    go_wp2_with fail
    · refine bodyPost_ret (v := .tuple #[.int .i64 (x : Nat), .bool true]) (by simp [results, Tryz.results74, go_sem]) rfl ⟨rfl, ?_⟩
      have q1 : Rn w (.slice (some ⟨g, off, none⟩) k 0) l := by have := HTl.out _ (if_pos h).symm; rw [h] at this; exact this
      have q := rwake_end H.out ha q1 (fun b hb => HT.out b hb) (Ex.refl _) (Ex.drawn _ 1)
      exact ⟨⟨_, q.1⟩, q.2⟩
    · refine bodyPost_ret (v := .tuple #[.int .i64 (x : Nat), .bool true]) (by simp [results, Tryz.results74, go_sem]) rfl ⟨rfl, ?_⟩
      have q := rwake_end H.out ha (HTl.out _ (if_neg h).symm) (fun b hb => HT.out b hb) (Ex.refl _) (Ex.drawn _ 1)
      exact ⟨⟨_, q.1⟩, q.2⟩

end Go.Proofs.YtmlobpapjfkbmaaGreat

/- Package treadmillref1: Has; rows that a drawn region makes (parts of Put16, for the .Z seat). -/
namespace Go.Proofs.YtmlobpapjfkbmaaGreat
open Go.RowKit
set_option linter.unusedVariables false
set_option maxRecDepth 20000
set_option linter.unusedSimpArgs false

set_option maxHeartbeats 1600000 in
theorem has_any {w : World} {v : Value} {l : List Nat} (h : Rn w v l) (hn : l.length ≤ 100000) (x : Nat) :
    Calls Tryz.prog 87 #[v, .int .i64 (x : Nat)] w fun e w' => e = .returned (.bool (l.contains x)) ∧ w = w' := by
  obtain ⟨a, cap, rfl, -, hcap, hc⟩ := h
  obtain ⟨n, hl⟩ : ∃ n, l.length = n := ⟨_, rfl⟩
  rw [hl] at hc hcap hn ⊢
  have HC := Lib.hid hc
  have HL := Lib.hid hl
  obtain ⟨r, hr⟩ : ∃ r, l.contains x = r := ⟨_, rfl⟩
  rw [hr]
  have HR := Lib.hid hr
  clear hc hl hr
  go_enter Tryz.func87, Tryz.ntmps87
  go_wp2_with fail
  go_loop [5] (fun iv => ∃ i : Nat, i ≤ n ∧ iv = .int .i64 i ∧ ∀ j, j < i → l.getD j 0 ≠ x) (fun iv => n - (intOf iv).toNat)
  case atStart => exact ⟨0, by omega, rfl, fun j hj => absurd hj (Nat.not_lt_zero _)⟩
  case round =>
    obtain ⟨i, hi, rfl, hno⟩ := hrel
    have HN := Lib.hid hno
    clear hno
    by_cases hin : i < n
    · obtain ⟨g, off, rfl, g1, g2⟩ := HC.out i hin
      obtain ⟨y, hy⟩ : ∃ y, l.getD i 0 = y := ⟨_, rfl⟩
      rw [hy] at g2
      have HY := Lib.hid hy
      have i0 : (0 : Int) ≤ (i : Int) := by omega
      have i1 : (i : Int) < (n : Int) := by omega
      clear hy
      by_cases hxy : y = x
      · have hb : ((y : Int) == (x : Int)) = true := by simp [hxy]
        have hc : r = true := by
          rw [← HR.out]
          rw [List.contains_iff_mem, ← hxy, ← HY.out, List.getD_eq_getElem?_getD, List.getElem?_eq_getElem (by rw [HL.out]; exact hin)]
          exact List.getElem_mem _
        subst hc
        clear hxy
        go_wp2_with fail
        go_ret
        exact ⟨rfl, rfl⟩
      · have hb : ((y : Int) == (x : Int)) = false := by simp; omega
        have HXY := Lib.hid hxy
        clear hxy
        go_wp2_with fail
        go_round
        case rel => exact ⟨i + 1, by omega, by go_num, fun j hj => by
          by_cases e : j = i
          · rw [e, HY.out]; exact HXY.out
          · exact HN.out j (by omega)⟩
        case measure => simp [intOf]; omega
    · obtain rfl : i = n := by omega
      have i1 : ¬ (i : Int) < (i : Int) := by omega
      have hc : r = false := by
        rw [← HR.out]
        rw [← Bool.not_eq_true, List.contains_iff_mem]
        intro hm
        obtain ⟨j, hj, e⟩ := List.mem_iff_getElem.1 hm
        refine HN.out j (by rw [← HL.out]; exact hj) ?_
        rw [List.getD_eq_getElem?_getD, List.getElem?_eq_getElem hj]; exact e
      subst hc
      go_wp2_with fail
      go_ret
      exact ⟨rfl, rfl⟩

/-- A row that a drawn region makes. -/
structure CI (Y0 Y : World) (v : Value) (L : List Nat) : Prop where
  ex : Ex Y0 Y
  row : Y.ownsRow Y0.heap.size 3 1 v L.length (S12.ints L)
theorem CI.base {Y0 Y : World} {v : Value} {L : List Nat} (h : CI Y0 Y v L) (k : Nat) (hk : v.ownBlock = some k) : Y0.heap.size ≤ k ∧ k < Y.heap.size := World.ownsRow.lt h.row k hk
theorem CI.lit {Y0 Y : World} (h : Ex Y0 Y) : CI Y0 (Y.alloc (.cells #[] 3)) (.slice (some ⟨Y.heap.size, 0, none⟩) 0 0) [] :=
  ⟨h.trans (Ex.made Y _), rfl, .inr ⟨Y.heap.size, 0, #[], rfl, h.size, heap_alloc_new Y _, Nat.le_refl _, by unfold maxLen; omega, rfl, rfl⟩⟩
theorem CI.made {Y0 Y : World} {v : Value} {L : List Nat} (h : CI Y0 Y v L) (o : Obj) : CI Y0 (Y.alloc o) v L := ⟨h.ex.trans (Ex.made Y o), World.ownsRow.alloc h.row o⟩
theorem CI.new {Y0 Y : World} {v : Value} {L : List Nat} (h : CI Y0 Y v L) : v.ownBlock ≠ some Y.heap.size := fun e => by have := (h.base _ e).2; omega
theorem box_farI {Y Y' : World} {v : Value} {nb : Nat} {cs : Array Value} {t : TypeId} (h : Box Y nb cs t) (hne : v.ownBlock ≠ some nb) (hg : Y.grownBy Y' v.ownBlock) : Box Y' nb cs t :=
  (hg.block nb h.lt (fun e => hne e.symm)).trans h
theorem own_farI {Y : World} {v v' : Value} {nb : Nat} {cs : Array Value} {t : TypeId} (h : Box Y nb cs t) (hne : v.ownBlock ≠ some nb) (hat : v'.ownBlock = v.ownBlock ∨ v'.ownBlock = some Y.heap.size) : v'.ownBlock ≠ some nb := by
  rcases hat with e | e
  · rw [e]; exact hne
  · rw [e]; intro h'; have := h.lt; cases h'; omega
theorem rn_box1 {Y : World} {nb x : Nat} (h : Box Y nb #[.int .i64 (x : Nat)] 3) : Rn Y (.slice (some ⟨nb, 0, none⟩) 1 1) [x] :=
  ⟨some ⟨nb, 0, none⟩, 1, rfl, (fun e => by cases e), Nat.le_refl _, fun j hj => ⟨nb, 0, rfl, h.lt, by
    obtain rfl : j = 0 := by simpa using hj
    exact h.cell 0⟩⟩
theorem step_append_ci {ops : Array Oper} {o : Oper} {a : Act} {K : Act → World → Prop} {Q : Exit → Act → World → Prop} {E : Prop} {Y0 Y : World} {v : Value} {L M : List Nat} (hgd : o.guard = none) (s x : Operand)
    (ho : o.op = .call { callee := .builtin .append, args := #[s, x], argTypes := #[37, 37] }) (h : CI Y0 Y v L) (hs : a.eval s = v) (u : Value) (hx : a.eval x = u) (hM : Rn Y u M) (hb : L.length + M.length ≤ 1000000)
    (k : ∀ v' Y', CI Y0 Y' v' (L ++ M) → Y.grownBy Y' v.ownBlock → (v'.ownBlock = v.ownBlock ∨ v'.ownBlock = some Y.heap.size) → K (a.put o.dst v') Y') :
    if Region.wanted o (yielded ops a.tmps) = true then Oper.wp Tryz.prog o a Y K Q else E := by
  have hw : Region.wanted o (yielded ops a.tmps) = true := by simp [Region.wanted, hgd]
  rw [if_pos hw]
  obtain ⟨v', Y', hr, h2, h3, h4⟩ := run_append_ints h.row h.ex.size hM hb o.type
  have h5 : CI Y0 Y' v' (L ++ M) := ⟨Below.grown h.ex h3 h.ex.size (fun k hk => (h.base k hk).1), h2⟩
  unfold Oper.wp execOp
  simp only [ho, resolve, invoke, builtin, Sem.run_bind, Sem.run_pure, Result.andThen_ok, List.map_toArray, List.map_cons, List.map_nil, hs, hx, hr]
  exact k v' Y' h5 h3 h4


end Go.Proofs.YtmlobpapjfkbmaaGreat

/- The document's other: wake. -/
namespace Go.Proofs.YtmlobpapjfkbmaaGreat
open Go.RowKit
set_option linter.unusedVariables false
set_option maxRecDepth 20000
set_option linter.unusedSimpArgs false

/-- What a wake leaves. -/
def wakeV (m : MS) (a : Nat) : MS × Int :=
  match m.wait.getD a [] with
  | [] => (m, -1)
  | x :: l => ({ m with wait := m.wait.set a l, st := m.st.set x 1 }, (x : Int))

set_option maxHeartbeats 12800000 in
theorem rother_12 {w : World} {A : RA} {t : Nat → Tg} {xb : Nat} {F : Fns} {m : MS} (h : Rf w A t xb F m) (n : New w t) {cb : Nat} {cc : CmI} (hc : CbR w A t cb cc 0) {g : Nat} (hg : g < m.gs.length) (hn : m.gs.length ≤ 1024) (a b c : Nat) (ha : a < 32) (hs : ∀ i, (m.wait.getD i []).length ≤ 100000) (hw : ∀ x l, m.wait.getD a [] = x :: l → x < m.gs.length) :
    Calls Tryz.prog 34 #[.pointer (some ⟨xb, 0, none⟩), .int .i64 (g : Nat), .agg #[.int .i64 12, .int .i64 (a : Nat), .int .i64 (b : Nat), .int .i64 (c : Nat)], .pointer (some ⟨cb, 0, none⟩)] w
      fun e w' => e = .returned (.tuple #[]) ∧ REff w A t xb F cb cc (wakeV m a).1 (wakeV m a).2 false w' := by
  have H := Lib.hid h
  have N := Lib.hid n
  have HC := Lib.hid hc
  have HG := Lib.hid hg
  obtain ⟨rb, rc, hgv, rlt, rcap, rcell⟩ := h.gvat hg
  have c2 : w.cell? ⟨xb, 2, none⟩ = some A.gv := h.box.box.cell 2
  have hgv2 := hgv
  rw [hgv] at c2
  have v1 : w.cell? ⟨cb, 4, none⟩ = some (.int .i64 0) := hc.box.cell 4
  have v2 := hc.box.soft 4
  have clt := hc.box.lt
  have xlt := h.box.box.lt
  obtain ⟨-, -, -, n4⟩ := cb_rg h hc hg
  obtain ⟨gl, hgl⟩ : ∃ gl, m.gs.length = gl := ⟨_, rfl⟩
  rw [hgl] at c2 rcap hn
  have i1 : (g : Int) < (gl : Int) := by have := HG.out; omega
  have i00 : (0 : Int) ≤ (g : Int) := by omega
  -- the world in which the value is -1
  have K1 : Hid (∀ W, Ex (w.setCell ⟨cb, 4, none⟩ (.int .i64 (-1))) W → Rf W A t xb F m) := Lib.hid (fun W x => h.ex (P := fun i => i = cb) ((Chg.cell (F := fun i => i = cb) w ⟨cb, 4, none⟩ _ rfl).ex x) (fun i hi => .inr (by subst hi; exact ⟨hc.tag, hc.pb⟩)))
  have KW : Hid (∀ W, Ex (w.setCell ⟨cb, 4, none⟩ (.int .i64 (-1))) W → Calls Tryz.prog 74 #[.pointer (some ⟨xb, 6, none⟩), .int .i64 (a : Nat)] W (RWakeR W A t xb F m a)) := Lib.hid (fun W x => rwake_any (K1.out W x) hs a ha)
  unfold RWakeR at KW
  unfold wakeV
  obtain ⟨L, hL⟩ : ∃ l, m.wait.getD a [] = l := ⟨_, rfl⟩
  rw [hL] at KW ⊢
  have HW : Hid (∀ x l, L = x :: l → x < m.gs.length) := Lib.hid (fun x l e => hw x l (hL.trans e))
  clear h n hc hg hgv hgv2 hgl hs hw hL
  cases L with
  | nil =>
    go_enter Tryz.func34, Tryz.ntmps34
    go_upto_region 17 with fail
    have x0 := Ex.made (w.setCell ⟨cb, 4, none⟩ (.int .i64 (-1))) (.cells #[.int .i64 12, .int .i64 (a : Nat), .int .i64 (b : Nat), .int .i64 (c : Nat)] 58)
    have X0 := Lib.hid x0
    clear x0
    go_region_with (go_at_call 74; refine (KW.out _ (X0.out.trans (Ex.drawn _ _))).mono ?_; rintro e w1 ⟨rfl, hx⟩; have HX := Lib.hid hx; clear hx)
    all_goals
      go_wp2_with fail
      exact Go.Great.bodyPost_end0 rfl rfl ⟨rfl, reff_val H.out N.out HC.out (-1) (Ex.refl _) ((X0.out.trans (Ex.drawn _ _)).trans HX.out)⟩
  | cons x l =>
    have hx := HW.out x l rfl
    obtain ⟨yrb, yrc, hgv, -, -, ycell⟩ := H.out.gvat hx
    go_enter Tryz.func34, Tryz.ntmps34
    go_upto_region 17 with fail
    have x0 := Ex.made (w.setCell ⟨cb, 4, none⟩ (.int .i64 (-1))) (.cells #[.int .i64 12, .int .i64 (a : Nat), .int .i64 (b : Nat), .int .i64 (c : Nat)] 58)
    have X0 := Lib.hid x0
    clear x0
    go_region_with (go_at_call 74; refine (KW.out _ (X0.out.trans (Ex.drawn _ _))).mono ?_; rintro e w1 ⟨rfl, v, hR, hk⟩; have HR := Lib.hid hR; have HK := Lib.hid hk; clear hR hk)
    all_goals
      have n4' : cb ≠ xb := fun e => n4 e.symm
      have KX := Lib.hid ((Chg.cell (F := fun i => i = cb) w ⟨cb, 4, none⟩ (.int .i64 (-1)) rfl).ex (X0.out.trans (Ex.drawn _ 1)))
      have BC : Hid (Box w1 cb (cc.cells (-1) false) 50) := Lib.hid ((((HC.out.box.put 4 (.int .i64 (-1))).ex (X0.out.trans (Ex.drawn _ 1)))).chg HK.out n4')
      have hxm : x < ({ m with wait := m.wait.set a l } : MS).gs.length := hx
      obtain ⟨zb, zc, ze, zlt, zcap, zcell⟩ := HR.out.gvat hxm
      have d2 : w1.cell? ⟨xb, 2, none⟩ = some A.gv := HR.out.box.box.cell 2
      have ze : A.gv = .slice (some ⟨zb, 0, none⟩) m.gs.length zc := ze
      rw [ze] at d2
      have GB := (HR.out.gor x hxm).box
      have g0 := GB.cell 0
      have f0 := GB.soft 0
      have glt := GB.lt
      have u1 : w1.cell? ⟨cb, 4, none⟩ = some (.int .i64 (-1)) := BC.out.cell 4
      have u2 := BC.out.soft 4
      have ne1 : A.gb x ≠ cb := (cb_rg H.out HC.out hx).1
      have ne2 : A.gb x ≠ xb := fun e => by have q1 := (H.out.gor x hx).tag; rw [e, H.out.box.tag] at q1; simp at q1
      obtain ⟨gn, hgn⟩ : ∃ k, m.gs.length = k := ⟨_, rfl⟩
      rw [hgn] at d2 hx
      have j1 : (x : Int) < (gn : Int) := by omega
      have j0 : (0 : Int) ≤ (x : Int) := by omega
      have HGN := Lib.hid hgn
      have zcell : w1.cell? ⟨zb, x, none⟩ = some (.pointer (some ⟨A.gb x, 0, none⟩)) := zcell
      have g0 : w1.cell? ⟨A.gb x, 0, none⟩ = some (.int .i64 (m.st.getD x 0 : Nat)) := g0
      have f0 : w1.frozen? ⟨A.gb x, 0, none⟩ = false := f0
      have glt : A.gb x < w1.heap.size := glt
      obtain ⟨gx, hgx⟩ : ∃ k, A.gb x = k := ⟨_, rfl⟩
      rw [hgx] at zcell g0 f0 glt ne1 ne2
      have HGX := Lib.hid hgx
      clear ze hgn hgx GB
      go_wp2_with fail
      obtain ⟨R1, k1⟩ := rf_st (w' := w1.setCell ⟨A.gb x, 0, none⟩ (.int .i64 (1 : Nat))) HR.out (by show x < m.gs.length; rw [HGN.out]; exact hx) 1 (Ex.refl _) (Ex.refl _)
      have k1 : Chg (fun i => i = A.gb x) w1 (w1.setCell ⟨A.gb x, 0, none⟩ (.int .i64 (1 : Nat))) := k1
      have k2 := Chg.cell (F := fun i => i = cb) (w1.setCell ⟨A.gb x, 0, none⟩ (.int .i64 (1 : Nat))) ⟨cb, 4, none⟩ (.int .i64 (x : Nat)) rfl
      have tx := (H.out.gor x (by rw [HGN.out]; exact hx)).tag
      have kA : Chg (fun i => (t i).1 ≠ 0 ∨ i = cb) w _ := (((KX.out.weak (fun _ _ h => .inr h)).trans (HK.out.weak (by rintro i - rfl; left; rw [H.out.box.tag]; simp)) (fun _ _ h => h)).trans (k1.weak (by rintro i - rfl; left; rw [tx]; simp)) (fun _ _ h => h)).trans (k2.weak (fun _ _ h => .inr h)) (fun _ _ h => h)
      obtain rfl := HGX.out
      refine Go.Great.bodyPost_end0 rfl rfl ⟨rfl, _, t, R1.ex k2 (fun i hi => .inr (by subst hi; exact ⟨HC.out.tag, HC.out.pb⟩)), N.out.le kA.size, fun _ _ => rfl, rfl, ?_, kA⟩
      exact ((BC.out.put_other (fun e => ne1 e.symm) 0 _).put 4 (.int .i64 (x : Nat)))

end Go.Proofs.YtmlobpapjfkbmaaGreat

/- The document's Waits: Wait. -/
namespace Go.Proofs.YtmlobpapjfkbmaaGreat
open Go.RowKit
set_option linter.unusedVariables false
set_option maxRecDepth 20000
set_option linter.unusedSimpArgs false

theorem CI.shape {Y0 Y : World} {v : Value} {L : List Nat} (h : CI Y0 Y v L) : ∃ a n c, v = .slice a n c := by
  obtain ⟨a, c, e⟩ := T13.row_val h.row
  exact ⟨a, _, c, e⟩
theorem heldL_store_ints {ops : Array Oper} {a : Act} {Q : Exit → Act → World → Prop} {S : World → Prop} {Y : World} {b j n fuel : Nat} {sa : Option Addr} {sn sc : Nat} {listed : Array Bool} {u0 : Value} (p q : Tmp)
    (hr : Region.ready .any ops listed = [n]) (hr2 : Region.ready .any ops (listed.setIfInBounds n true) = [])
    (ho : (ops[n]?).map (fun o => (o.op, o.guard, o.dst)) = some (.store 37 (.tmp p) (.tmp q), none, none)) (hp : a.eval (.tmp p) = .pointer (some ⟨b, j, none⟩)) (hv : a.eval (.tmp q) = .slice sa sn sc)
    (c : Y.cell? ⟨b, j, none⟩ = some u0) (s : Y.frozen? ⟨b, j, none⟩ = false)
    (k : Q .normal a (Y.setCell ⟨b, j, none⟩ (.slice sa sn sc))) : HeldL Tryz.prog .any ops Q S n (fuel + 1) listed a Y := by
  cases hi : ops[n]? with
  | none => rw [hi] at ho; cases ho
  | some o =>
    rw [hi] at ho
    simp only [Option.map_some, Option.some.injEq, Prod.mk.injEq] at ho
    obtain ⟨ho, hgd, hd⟩ := ho
    refine heldL_last hr hr2 (wpOp_step hi fun K' hK => ?_)
    have hw : Region.wanted o (yielded ops a.tmps) = true := by simp [Region.wanted, hgd]
    rw [if_pos hw]
    unfold Oper.wp execOp
    simp only [ho, hp, hv]
    go_simp
    exact hK _ _ k

/-- A row is laid where who waits at a. -/
theorem rwait_end {w Y0 Y : World} {A : RA} {t : Nat → Tg} {xb : Nat} {F : Fns} {m : MS} (h : Rf w A t xb F m) (n : New w t) {a : Nat} (ha : a < 32) (x0 : Ex w Y0) {v : Value} {L : List Nat} (c : CI Y0 Y v L) :
    ∃ t', Rf (Y.setCell ⟨xb, 6 + a, none⟩ v) { A with wv := fun i => if i = a then v else A.wv i } t' xb F { m with wait := m.wait.set a L } ∧ New (Y.setCell ⟨xb, 6 + a, none⟩ v) t' ∧ (∀ i, i < w.heap.size → t' i = t i) ∧ Chg (fun i => i = xb) w (Y.setCell ⟨xb, 6 + a, none⟩ v) := by
  have y : Ex w Y := x0.trans c.ex
  have k : Chg (fun i => i = xb) w (Y.setCell ⟨xb, 6 + a, none⟩ v) := (y.chg _).trans (Chg.cell (F := fun i => i = xb) Y ⟨xb, 6 + a, none⟩ _ rfl) (fun _ _ h => h)
  have tx := h.box.tag
  have hb : ∀ b, v.ownBlock = some b → w.heap.size ≤ b ∧ b < Y.heap.size := fun b hb => ⟨Nat.le_trans x0.size (c.base b hb).1, (c.base b hb).2⟩
  have hx : ∀ i, i < w.heap.size → (if v.ownBlock = some i then (12, a) else t i) = t i := fun i hi => if_neg (fun e => by have := (hb i e).1; omega)
  have hsz : (Y.setCell ⟨xb, 6 + a, none⟩ v).heap.size = Y.heap.size := by simp [World.setCell]
  have xlt := h.box.box.lt
  refine ⟨fun i => if v.ownBlock = some i then (12, a) else t i, (h.retag n hx).wput a v L ha ?_ ?_ (fun b e => if_pos e) k (by
    rintro i rfl
    left
    have e : (fun i => if v.ownBlock = some i then ((12, a) : Tg) else t i) i = (1, 0) := (hx i xlt).trans tx
    rw [e]; simp), fun i hi => ?_, hx, k⟩
  · rw [← rcells_wset A m.clock a ha v]
    exact (h.box.box.ex y).put (6 + a) v
  · exact (Rn.of c.row).chg (P := fun i => i = xb) (fun b e q => by have := (hb b e).1; omega) (Chg.cell (F := fun i => i = xb) Y ⟨xb, 6 + a, none⟩ _ rfl)
  · rw [hsz] at hi
    show (if v.ownBlock = some i then (12, a) else t i).1 = 0
    rw [if_neg (fun e => by have := (hb i e).2; omega)]
    exact n i (Nat.le_trans y.size hi)

set_option maxRecDepth 20000 in
set_option maxHeartbeats 12800000 in
theorem rwait_any {w : World} {A : RA} {t : Nat → Tg} {xb : Nat} {F : Fns} {m : MS} (h : Rf w A t xb F m) (n : New w t) (hs : ∀ i, (m.wait.getD i []).length ≤ 100000) (a x : Nat) (ha : a < 32) (hno : ∀ i, i < 32 → (m.wait.getD i []).contains x = false) :
    Calls Tryz.prog 73 #[.pointer (some ⟨xb, 6, none⟩), .int .i64 (a : Nat), .int .i64 (x : Nat)] w
      fun e w' => e = .returned (.int .i64 0) ∧ ∃ v t', Rf w' { A with wv := fun i => if i = a then v else A.wv i } t' xb F { m with wait := m.wait.set a (m.wait.getD a [] ++ [x]) } ∧ New w' t' ∧ (∀ i, i < w.heap.size → t' i = t i) ∧ Chg (fun i => i = xb) w w' := by
  have H := Lib.hid h
  have N := Lib.hid n
  have AI := Lib.hid ha
  have HS := Lib.hid hs
  have HNO := Lib.hid hno
  have xlt := h.box.box.lt
  have i0 : ¬ (a : Int) < 0 := by omega
  have i1 : ¬ (31 : Int) < (a : Int) := by omega
  have i2 : (a : Int) < 32 := by omega
  have i3 : (0 : Int) ≤ (a : Int) := by omega
  have CW : Hid (∀ i, i < 32 → w.cell? ⟨xb, 6 + i, none⟩ = some (A.wv i)) := Lib.hid (fun i hi => (h.box.box.cell _).trans (rcells_wv A m.clock i hi))
  clear h n hs hno
  go_enter Tryz.func73, Tryz.ntmps73
  go_wp2_with fail
  go_loop [7] (fun iv => ∃ i : Nat, i ≤ 32 ∧ iv = .int .i64 i) (fun iv => 32 - (intOf iv).toNat)
  case atStart => exact ⟨0, by omega, rfl⟩
  case round =>
    obtain ⟨i, hi, rfl⟩ := hrel
    by_cases hin : i < 32
    · have c0 := CW.out i hin
      have j0 : (0 : Int) ≤ (i : Int) := by omega
      have j1 : (i : Int) < 32 := by omega
      have HI := Lib.hid hin
      obtain ⟨vi, hvi⟩ : ∃ v, A.wv i = v := ⟨_, rfl⟩
      rw [hvi] at c0
      have HVI := Lib.hid hvi
      clear hvi
      go_wp2_with fail
      refine (has_any (HVI.out ▸ H.out.wait i HI.out) (HS.out i) x).mono ?_
      have hno : (m.wait.getD i []).contains x = false := HNO.out i HI.out
      rw [hno]
      rintro e w' ⟨rfl, rfl⟩
      go_wp2_with fail
      go_round
      case rel => exact ⟨i + 1, by omega, by go_num⟩
      case measure => simp [intOf]; omega
    · obtain rfl : i = 32 := by omega
      obtain ⟨l, hl⟩ : ∃ l, m.wait.getD a [] = l := ⟨_, rfl⟩
      have HL : Hid (l.length ≤ 100000) := Lib.hid (hl ▸ HS.out a)
      have HLE := Lib.hid hl
      obtain ⟨va, hva⟩ : ∃ v, A.wv a = v := ⟨_, rfl⟩
      have NW0 : Hid (Rn w va l) := Lib.hid (by have := H.out.wait a AI.out; rw [hva] at this; have e : m.wat a = l := hl; rw [e] at this; exact this)
      have CX0 : Hid (w.cell? ⟨xb, 6 + a, none⟩ = some va) := Lib.hid (hva ▸ CW.out a AI.out)
      clear hl hva
      go_upto_region 8 with fail
      have XW := Lib.hid (ex_drw w)
      have CX : Hid (∀ W, Ex w.drew W → W.cell? ⟨xb, 6 + a, none⟩ = some va) := Lib.hid (fun W hW => (((ex_drw w).trans hW).cell (p := ⟨xb, 6 + a, none⟩) xlt).trans CX0.out)
      have SX : Hid (∀ W, Ex w.drew W → W.frozen? ⟨xb, 6 + a, none⟩ = false) := Lib.hid (fun W hW => (H.out.box.box.ex ((ex_drw w).trans hW)).soft (6 + a))
      have NW1 : Hid (∀ W, Ex w.drew W → Rn W va l) := Lib.hid (fun W hW => NW0.out.ex ((ex_drw w).trans hW))
      refine wp_region_last (S := fun w' => Ex w.drew w') 16 17 (by kernel_rfl) (by kernel_rfl) (by kernel_rfl) (Ex.refl _) (fun hHeld => ?_)
      have XD0 := Lib.hid (Ex.refl w.drew)
      generalize w.drew = Y0 at *
      refine heldL_take (i := 0) (v := ?_) rfl (by kernel_rfl) (by kernel_rfl) (by kernel_rfl) (by kernel_rfl) (fun _ _ _ h => h) (Or.inl ⟨by rfl, ?_⟩) (by assumption) ?_
      rotate_left
      · intro w hSw; (try dsimp only at hSw); have c0 := CX.out w hSw; go_simp; try with_reducible rfl
      try simp only [Act.put, List.setIfInBounds_toArray, List.set_cons_zero, List.set_cons_succ]
      refine heldL_take (i := 1) (v := ?_) rfl (by kernel_rfl) (by kernel_rfl) (by kernel_rfl) (by kernel_rfl) (fun _ _ _ h => h) (Or.inl ⟨by rfl, ?_⟩) (by assumption) ?_
      rotate_left
      · intro w hSw; (try dsimp only at hSw); have c0 := CX.out w hSw; go_simp; try with_reducible rfl
      try simp only [Act.put, List.setIfInBounds_toArray, List.set_cons_zero, List.set_cons_succ]
      refine heldL_take (i := 3) (v := ?_) rfl (by kernel_rfl) (by kernel_rfl) (by kernel_rfl) (by kernel_rfl) (fun _ _ _ h => h) (Or.inl ⟨by rfl, ?_⟩) (by assumption) ?_
      rotate_left
      · intro w hSw; (try dsimp only at hSw); have c0 := CX.out w hSw; go_simp; try with_reducible rfl
      try simp only [Act.put, List.setIfInBounds_toArray, List.set_cons_zero, List.set_cons_succ]
      refine heldL_take (i := 4) (v := ?_) rfl (by kernel_rfl) (by kernel_rfl) (by kernel_rfl) (by kernel_rfl) (fun _ _ _ h => h) (Or.inl ⟨by rfl, ?_⟩) (by assumption) ?_
      rotate_left
      · intro w hSw; (try dsimp only at hSw); have c0 := CX.out w hSw; go_simp; try with_reducible rfl
      try simp only [Act.put, List.setIfInBounds_toArray, List.set_cons_zero, List.set_cons_succ]
      refine heldL_take (i := 5) (v := ?_) rfl (by kernel_rfl) (by kernel_rfl) (by kernel_rfl) (by kernel_rfl) (fun _ _ _ h => h) (Or.inl ⟨by rfl, ?_⟩) (by assumption) ?_
      rotate_left
      · intro w hSw; (try dsimp only at hSw); have c0 := CX.out w hSw; go_simp; try with_reducible rfl
      try simp only [Act.put, List.setIfInBounds_toArray, List.set_cons_zero, List.set_cons_succ]
      refine heldL_take (i := 6) (v := ?_) rfl (by kernel_rfl) (by kernel_rfl) (by kernel_rfl) (by kernel_rfl) (fun _ _ _ h => h) (Or.inl ⟨by rfl, ?_⟩) (by assumption) ?_
      rotate_left
      · intro w hSw; (try dsimp only at hSw); have c0 := CX.out w hSw; go_simp; try with_reducible rfl
      try simp only [Act.put, List.setIfInBounds_toArray, List.set_cons_zero, List.set_cons_succ]
      refine heldL_take (i := 7) (v := ?_) rfl (by kernel_rfl) (by kernel_rfl) (by kernel_rfl) (by kernel_rfl) (fun _ _ _ h => h) (Or.inl ⟨by rfl, ?_⟩) (by assumption) ?_
      rotate_left
      · intro w hSw; (try dsimp only at hSw); have c0 := CX.out w hSw; go_simp; try with_reducible rfl
      try simp only [Act.put, List.setIfInBounds_toArray, List.set_cons_zero, List.set_cons_succ]
      refine heldL_take (i := 8) (v := ?_) rfl (by kernel_rfl) (by kernel_rfl) (by kernel_rfl) (by kernel_rfl) (fun _ _ _ h => h) (Or.inl ⟨by rfl, ?_⟩) (by assumption) ?_
      rotate_left
      · intro w hSw; (try dsimp only at hSw); have c0 := CX.out w hSw; go_simp; try with_reducible rfl
      try simp only [Act.put, List.setIfInBounds_toArray, List.set_cons_zero, List.set_cons_succ]
      refine heldL_take (i := 10) (v := ?_) rfl (by kernel_rfl) (by kernel_rfl) (by kernel_rfl) (by kernel_rfl) (fun _ _ _ h => h) (Or.inl ⟨by rfl, ?_⟩) (by assumption) ?_
      rotate_left
      · intro w hSw; (try dsimp only at hSw); have c0 := CX.out w hSw; go_simp; try with_reducible rfl
      try simp only [Act.put, List.setIfInBounds_toArray, List.set_cons_zero, List.set_cons_succ]
      refine heldL_take (i := 13) (v := ?_) rfl (by kernel_rfl) (by kernel_rfl) (by kernel_rfl) (by kernel_rfl) (fun _ _ _ h => h) (Or.inl ⟨by rfl, ?_⟩) (by assumption) ?_
      rotate_left
      · intro w hSw; (try dsimp only at hSw); have c0 := CX.out w hSw; go_simp; try with_reducible rfl
      try simp only [Act.put, List.setIfInBounds_toArray, List.set_cons_zero, List.set_cons_succ]
      refine heldL_take (i := 14) (v := ?_) rfl (by kernel_rfl) (by kernel_rfl) (by kernel_rfl) (by kernel_rfl) (fun _ _ _ h => h) (Or.inl ⟨by rfl, ?_⟩) (by assumption) ?_
      rotate_left
      · intro w hSw; (try dsimp only at hSw); have c0 := CX.out w hSw; go_simp; try with_reducible rfl
      try simp only [Act.put, List.setIfInBounds_toArray, List.set_cons_zero, List.set_cons_succ]
      refine heldL_ready (rs := [2, 11]) (by kernel_rfl) (by simp) ?_
      refine AllL.cons rfl (fun K hK => ?_) (AllL.cons rfl (fun K hK => ?_) AllL.nil)
      go_simp
      have hx := (XD0.out.trans (Ex.made Y0 (.cells #[] 3)))
      refine hK.out _ _ (fun _ => hx) (fun _ => ?_)
      clear hK K
      try simp only [Act.put, List.setIfInBounds_toArray, List.set_cons_zero, List.set_cons_succ]
      have hc := CI.lit XD0.out
      obtain ⟨e0, he0⟩ : ∃ e0, Y0.heap.size = e0 := ⟨_, rfl⟩
      rw [he0] at hc ⊢
      obtain ⟨v0, hv0⟩ : ∃ v0, Value.slice (some ⟨e0, 0, none⟩) 0 0 = v0 := ⟨_, rfl⟩
      have hne : ∀ q, v0.ownBlock = some q → q = e0 := fun q hq => by rw [← hv0] at hq; cases hq; rfl
      rw [hv0] at hc ⊢
      obtain ⟨Y1, hY⟩ : ∃ Y, Y = Y0.alloc (.cells #[] 3) := ⟨_, rfl⟩
      rw [← hY] at hx hc ⊢
      have hHeld := hx
      have XD1 := Lib.hid hx
      have C1 := Lib.hid hc
      clear hY hx hc hv0 he0
      try clear hne
      refine heldL_ready (rs := [9, 11]) (by kernel_rfl) (by simp) ?_
      refine AllL.cons rfl (fun K hK => ?_) (AllL.cons rfl (fun K hK => ?_) AllL.nil)
      refine step_append_ci (M := l) rfl (.tmp 28) (.tmp 34) rfl C1.out (by rfl) _ (by rfl) (NW1.out Y1 XD1.out) (by have := HL.out; simp <;> omega) ?_
      intro v1 Y2 hc hg hat
      refine hK.out _ _ (fun _ => hc.ex) (fun _ => ?_)
      clear hK K
      try simp only [Act.put, List.setIfInBounds_toArray, List.set_cons_zero, List.set_cons_succ]
      have hHeld := hc.ex
      have XD2 := Lib.hid hc.ex
      have C2 := Lib.hid hc
      clear hc hg hat
      refine heldL_ready (rs := [11]) (by kernel_rfl) (by simp) ?_
      refine AllL.cons rfl (fun K hK => ?_) AllL.nil
      go_simp
      have hx := (XD2.out.trans (Ex.made Y2 (.cells #[.int .i64 (x : Nat)] 3)))
      refine hK.out _ _ (fun _ => hx) (fun _ => ?_)
      clear hK K
      try simp only [Act.put, List.setIfInBounds_toArray, List.set_cons_zero, List.set_cons_succ]
      have hb := Box.fresh Y2 #[.int .i64 (x : Nat)] 3
      have hc := C2.out.made (.cells #[.int .i64 (x : Nat)] 3)
      have hne := C2.out.new
      obtain ⟨nb, hnb⟩ : ∃ b, Y2.heap.size = b := ⟨_, rfl⟩
      rw [hnb] at hb hne ⊢
      obtain ⟨Y3, hY⟩ : ∃ Y, Y = Y2.alloc (.cells #[.int .i64 (x : Nat)] 3) := ⟨_, rfl⟩
      rw [← hY] at hx hc hb ⊢
      have hHeld := hx
      have XD3 := Lib.hid hx
      have C3 := Lib.hid hc
      have B3 := Lib.hid hb
      have NE3 := Lib.hid hne
      clear hc hne
      clear hY hnb hx hb
      refine heldL_ready (rs := [12]) (by kernel_rfl) (by simp) ?_
      refine AllL.cons rfl (fun K hK => ?_) AllL.nil
      refine step_append_ci (M := [x]) rfl (.tmp 35) (.tmp 37) rfl C3.out (by rfl) _ (by rfl) (rn_box1 B3.out) (by have := HL.out; simp <;> omega) ?_
      intro v2 Y4 hc hg hat
      refine hK.out _ _ (fun _ => hc.ex) (fun _ => ?_)
      clear hK K
      try simp only [Act.put, List.setIfInBounds_toArray, List.set_cons_zero, List.set_cons_succ]
      have hHeld := hc.ex
      have XD4 := Lib.hid hc.ex
      have C4 := Lib.hid hc
      clear hc hg hat
      refine heldL_take (i := 15) (v := ?_) rfl (by kernel_rfl) (by kernel_rfl) (by kernel_rfl) (by kernel_rfl) (fun _ _ _ h => h) (Or.inl ⟨by rfl, ?_⟩) (by assumption) ?_
      rotate_left
      · intro w hSw; (try dsimp only at hSw); have c0 := CX.out w hSw; go_simp; try with_reducible rfl
      try simp only [Act.put, List.setIfInBounds_toArray, List.set_cons_zero, List.set_cons_succ]
      obtain ⟨a3, n3, c3, rfl⟩ := C4.out.shape
      have s0 := CX.out Y4 XD4.out
      have s1 := SX.out Y4 XD4.out
      refine heldL_store_ints 41 38 (by kernel_rfl) (by kernel_rfl) (by kernel_rfl) (by rfl) (by rfl) s0 s1 ?_
      clear s0 s1
      have CE := Lib.hid (rwait_end H.out N.out AI.out XW.out C4.out)
      obtain ⟨Z, hZ⟩ : ∃ Z, Z = Y4.setCell ⟨xb, 6 + a, none⟩ (.slice a3 n3 c3) := ⟨_, rfl⟩
      rw [← hZ] at CE ⊢
      clear hZ
      rotate_left
      go_simp
      have hx := (XD1.out.trans (Ex.made Y1 (.cells #[.int .i64 (x : Nat)] 3)))
      refine hK.out _ _ (fun _ => hx) (fun _ => ?_)
      clear hK K
      try simp only [Act.put, List.setIfInBounds_toArray, List.set_cons_zero, List.set_cons_succ]
      have hb := Box.fresh Y1 #[.int .i64 (x : Nat)] 3
      have hc := C1.out.made (.cells #[.int .i64 (x : Nat)] 3)
      have hne := C1.out.new
      obtain ⟨nb, hnb⟩ : ∃ b, Y1.heap.size = b := ⟨_, rfl⟩
      rw [hnb] at hb hne ⊢
      obtain ⟨Y2, hY⟩ : ∃ Y, Y = Y1.alloc (.cells #[.int .i64 (x : Nat)] 3) := ⟨_, rfl⟩
      rw [← hY] at hx hc hb ⊢
      have hHeld := hx
      have XD2 := Lib.hid hx
      have C2 := Lib.hid hc
      have B2 := Lib.hid hb
      have NE2 := Lib.hid hne
      clear hc hne
      clear hY hnb hx hb
      refine heldL_ready (rs := [9]) (by kernel_rfl) (by simp) ?_
      refine AllL.cons rfl (fun K hK => ?_) AllL.nil
      refine step_append_ci (M := l) rfl (.tmp 28) (.tmp 34) rfl C2.out (by rfl) _ (by rfl) (NW1.out Y2 XD2.out) (by have := HL.out; simp <;> omega) ?_
      intro v1 Y3 hc hg hat
      refine hK.out _ _ (fun _ => hc.ex) (fun _ => ?_)
      clear hK K
      try simp only [Act.put, List.setIfInBounds_toArray, List.set_cons_zero, List.set_cons_succ]
      have hHeld := hc.ex
      have XD3 := Lib.hid hc.ex
      have C3 := Lib.hid hc
      have B3 := Lib.hid (box_farI B2.out NE2.out hg)
      have NE3 := Lib.hid (own_farI B2.out NE2.out hat)
      clear hc hg hat
      refine heldL_ready (rs := [12]) (by kernel_rfl) (by simp) ?_
      refine AllL.cons rfl (fun K hK => ?_) AllL.nil
      refine step_append_ci (M := [x]) rfl (.tmp 35) (.tmp 37) rfl C3.out (by rfl) _ (by rfl) (rn_box1 B3.out) (by have := HL.out; simp <;> omega) ?_
      intro v2 Y4 hc hg hat
      refine hK.out _ _ (fun _ => hc.ex) (fun _ => ?_)
      clear hK K
      try simp only [Act.put, List.setIfInBounds_toArray, List.set_cons_zero, List.set_cons_succ]
      have hHeld := hc.ex
      have XD4 := Lib.hid hc.ex
      have C4 := Lib.hid hc
      clear hc hg hat
      refine heldL_take (i := 15) (v := ?_) rfl (by kernel_rfl) (by kernel_rfl) (by kernel_rfl) (by kernel_rfl) (fun _ _ _ h => h) (Or.inl ⟨by rfl, ?_⟩) (by assumption) ?_
      rotate_left
      · intro w hSw; (try dsimp only at hSw); have c0 := CX.out w hSw; go_simp; try with_reducible rfl
      try simp only [Act.put, List.setIfInBounds_toArray, List.set_cons_zero, List.set_cons_succ]
      obtain ⟨a3, n3, c3, rfl⟩ := C4.out.shape
      have s0 := CX.out Y4 XD4.out
      have s1 := SX.out Y4 XD4.out
      refine heldL_store_ints 41 38 (by kernel_rfl) (by kernel_rfl) (by kernel_rfl) (by rfl) (by rfl) s0 s1 ?_
      clear s0 s1
      have CE := Lib.hid (rwait_end H.out N.out AI.out XW.out C4.out)
      obtain ⟨Z, hZ⟩ : ∃ Z, Z = Y4.setCell ⟨xb, 6 + a, none⟩ (.slice a3 n3 c3) := ⟨_, rfl⟩
      rw [← hZ] at CE ⊢
      clear hZ
      rotate_left
      go_simp
      have hx := (XD0.out.trans (Ex.made Y0 (.cells #[.int .i64 (x : Nat)] 3)))
      refine hK.out _ _ (fun _ => hx) (fun _ => ?_)
      clear hK K
      try simp only [Act.put, List.setIfInBounds_toArray, List.set_cons_zero, List.set_cons_succ]
      have hb := Box.fresh Y0 #[.int .i64 (x : Nat)] 3
      obtain ⟨nb, hnb⟩ : ∃ b, Y0.heap.size = b := ⟨_, rfl⟩
      rw [hnb] at hb ⊢
      obtain ⟨Y1, hY⟩ : ∃ Y, Y = Y0.alloc (.cells #[.int .i64 (x : Nat)] 3) := ⟨_, rfl⟩
      rw [← hY] at hx hb ⊢
      have hHeld := hx
      have XD1 := Lib.hid hx
      have B1 := Lib.hid hb
      clear hY hnb hx hb
      refine heldL_ready (rs := [2]) (by kernel_rfl) (by simp) ?_
      refine AllL.cons rfl (fun K hK => ?_) AllL.nil
      go_simp
      have hx := (XD1.out.trans (Ex.made Y1 (.cells #[] 3)))
      refine hK.out _ _ (fun _ => hx) (fun _ => ?_)
      clear hK K
      try simp only [Act.put, List.setIfInBounds_toArray, List.set_cons_zero, List.set_cons_succ]
      have hc := CI.lit XD1.out
      have hb := (B1.out.ex (Ex.made Y1 (.cells #[] 3)))
      have hlt := B1.out.lt
      obtain ⟨e0, he0⟩ : ∃ e0, Y1.heap.size = e0 := ⟨_, rfl⟩
      rw [he0] at hc hlt ⊢
      obtain ⟨v0, hv0⟩ : ∃ v0, Value.slice (some ⟨e0, 0, none⟩) 0 0 = v0 := ⟨_, rfl⟩
      have hne : ∀ q, v0.ownBlock = some q → q = e0 := fun q hq => by rw [← hv0] at hq; cases hq; rfl
      rw [hv0] at hc ⊢
      obtain ⟨Y2, hY⟩ : ∃ Y, Y = Y1.alloc (.cells #[] 3) := ⟨_, rfl⟩
      rw [← hY] at hx hc hb ⊢
      have hHeld := hx
      have XD2 := Lib.hid hx
      have C2 := Lib.hid hc
      have B2 := Lib.hid hb
      have NE2 : Hid (v0.ownBlock ≠ some nb) := Lib.hid (fun e => by have := hne nb e; omega)
      clear hb hlt
      clear hY hx hc hv0 he0
      try clear hne
      refine heldL_ready (rs := [9]) (by kernel_rfl) (by simp) ?_
      refine AllL.cons rfl (fun K hK => ?_) AllL.nil
      refine step_append_ci (M := l) rfl (.tmp 28) (.tmp 34) rfl C2.out (by rfl) _ (by rfl) (NW1.out Y2 XD2.out) (by have := HL.out; simp <;> omega) ?_
      intro v1 Y3 hc hg hat
      refine hK.out _ _ (fun _ => hc.ex) (fun _ => ?_)
      clear hK K
      try simp only [Act.put, List.setIfInBounds_toArray, List.set_cons_zero, List.set_cons_succ]
      have hHeld := hc.ex
      have XD3 := Lib.hid hc.ex
      have C3 := Lib.hid hc
      have B3 := Lib.hid (box_farI B2.out NE2.out hg)
      have NE3 := Lib.hid (own_farI B2.out NE2.out hat)
      clear hc hg hat
      refine heldL_ready (rs := [12]) (by kernel_rfl) (by simp) ?_
      refine AllL.cons rfl (fun K hK => ?_) AllL.nil
      refine step_append_ci (M := [x]) rfl (.tmp 35) (.tmp 37) rfl C3.out (by rfl) _ (by rfl) (rn_box1 B3.out) (by have := HL.out; simp <;> omega) ?_
      intro v2 Y4 hc hg hat
      refine hK.out _ _ (fun _ => hc.ex) (fun _ => ?_)
      clear hK K
      try simp only [Act.put, List.setIfInBounds_toArray, List.set_cons_zero, List.set_cons_succ]
      have hHeld := hc.ex
      have XD4 := Lib.hid hc.ex
      have C4 := Lib.hid hc
      clear hc hg hat
      refine heldL_take (i := 15) (v := ?_) rfl (by kernel_rfl) (by kernel_rfl) (by kernel_rfl) (by kernel_rfl) (fun _ _ _ h => h) (Or.inl ⟨by rfl, ?_⟩) (by assumption) ?_
      rotate_left
      · intro w hSw; (try dsimp only at hSw); have c0 := CX.out w hSw; go_simp; try with_reducible rfl
      try simp only [Act.put, List.setIfInBounds_toArray, List.set_cons_zero, List.set_cons_succ]
      obtain ⟨a3, n3, c3, rfl⟩ := C4.out.shape
      have s0 := CX.out Y4 XD4.out
      have s1 := SX.out Y4 XD4.out
      refine heldL_store_ints 41 38 (by kernel_rfl) (by kernel_rfl) (by kernel_rfl) (by rfl) (by rfl) s0 s1 ?_
      clear s0 s1
      have CE := Lib.hid (rwait_end H.out N.out AI.out XW.out C4.out)
      obtain ⟨Z, hZ⟩ : ∃ Z, Z = Y4.setCell ⟨xb, 6 + a, none⟩ (.slice a3 n3 c3) := ⟨_, rfl⟩
      rw [← hZ] at CE ⊢
      clear hZ
      rotate_left
      all_goals
        clear CX SX NW1
        go_wp2_with fail
        go_ret
        obtain ⟨t', r1, r2, r3, r4⟩ := CE.out
        rw [show m.wait[a]?.getD [] = l by rw [← List.getD_eq_getElem?_getD]; exact HLE.out]
        exact ⟨rfl, _, t', r1, r2, r3, r4⟩

end Go.Proofs.YtmlobpapjfkbmaaGreat

/- More of what holds of a model all along: who waits is somewhere; plain. -/
namespace Go.Proofs.YtmlobpapjfkbmaaGreat
set_option linter.unusedVariables false
set_option maxRecDepth 20000
set_option linter.unusedSimpArgs false

/-- Sleepers are in order; who waits sleeps, or waits at a place. -/
structure In2 (m : MS) : Prop where
  up : T13.Up m.sleep
  cv : ∀ g, g < m.st.length → m.st.getD g 0 = 3 → g ∈ m.sleep.map (fun p => p.2.1.toNat) ∨ g ∈ m.wait.flatten

theorem up_left {S : List T13.T3} (h : T13.Up S) (now : Int) : T13.Up (T13.leftS now S) := List.Pairwise.filter _ h
theorem mem_flat_set {W : List (List Nat)} {a x : Nat} {l : List Nat} (ha : a < W.length) : (x ∈ (W.set a l).flatten ∨ x ∈ W.getD a []) ↔ (x ∈ l ∨ x ∈ W.flatten) := by
  have := (flatten_set_perm W a l ha).mem_iff (a := x)
  rw [List.mem_append, List.mem_append] at this
  exact this

theorem in2_op {F : Fns} {gn n : Nat} {m : MS} (I : Inv F gn n m) (h : In2 m) {g : Nat} (hg : g < m.gs.length) (h1 : m.st.getD g 0 = 1) {op a b c : Nat} (f : Fit F gn op a b c) : In2 (opM m g op a b c) := by
  have hgs : g < m.st.length := by rw [I.st]; exact hg
  -- the goroutine's state is turned, not to waiting
  have T : ∀ s, s ≠ 3 → ∀ i, i < (m.st.set g s).length → (m.st.set g s).getD i 0 = 3 → i ∈ m.sleep.map (fun p => p.2.1.toNat) ∨ i ∈ m.wait.flatten := fun s hs i hi h3 => by
    rw [List.length_set] at hi
    rw [getD_set _ _ _ _ hgs] at h3
    split at h3
    · exact absurd h3 hs
    · exact h.cv i hi h3
  have T3 : ∀ i, i < (m.st.set g 3).length → (m.st.set g 3).getD i 0 = 3 → i = g ∨ i ∈ m.sleep.map (fun p => p.2.1.toNat) ∨ i ∈ m.wait.flatten := fun i hi h3 => by
    rw [List.length_set] at hi
    rw [getD_set _ _ _ _ hgs] at h3
    split at h3
    · next e => exact .inl e
    · exact .inr (h.cv i hi h3)
  have D : In2 (deadM m g) := ⟨h.up, T 5 (by omega)⟩
  obtain ⟨ho, f1, f2, f3, f4, f5, f6, f7, f8, f9, f10, f11, f12⟩ := f
  rcases op_cases ho with rfl | rfl | rfl | rfl | rfl | rfl | rfl | rfl | rfl | rfl | rfl | rfl | rfl | rfl | rfl | rfl | rfl | rfl
  · exact D
  · exact ⟨h.up, h.cv⟩
  · simp only [opM]
    split
    · exact D
    · exact ⟨h.up, h.cv⟩
  · simp only [opM]
    split
    · exact D
    · exact ⟨h.up, h.cv⟩
  · exact ⟨h.up, h.cv⟩
  · exact ⟨h.up, h.cv⟩
  · exact ⟨h.up, h.cv⟩
  · exact ⟨h.up, h.cv⟩
  · simp only [opM]
    split
    · refine ⟨h.up, fun i hi h3 => ?_⟩
      have hi : i < (m.st ++ [1]).length := hi
      have h3 : (m.st ++ [1]).getD i 0 = 3 := h3
      by_cases hl : i < m.st.length
      · rw [List.getD_eq_getElem?_getD, List.getElem?_append_left hl, ← List.getD_eq_getElem?_getD] at h3
        exact h.cv i hl h3
      · have : i = m.st.length := by simp at hi; omega
        subst this
        simp at h3
    · exact D
  · exact ⟨h.up, h.cv⟩
  · refine ⟨T13.up_ins _ h.up, fun i hi h3 => ?_⟩
    rcases T3 i hi h3 with e | e | e
    · left
      refine List.mem_map.2 ⟨_, (insT_mem _ _ _).2 (.inl rfl), ?_⟩
      subst e; simp
    · left
      obtain ⟨p, hp, e⟩ := List.mem_map.1 e
      exact List.mem_map.2 ⟨p, (insT_mem _ _ _).2 (.inr hp), e⟩
    · exact .inr e
  · refine ⟨h.up, fun i hi h3 => ?_⟩
    have ha : a < m.wait.length := by rw [I.wl]; exact f9 (by omega)
    have hs := fun x => mem_flat_set (W := m.wait) (a := a) (x := x) (l := m.wait.getD a [] ++ [g]) ha
    have W : ∀ x, (x = g ∨ x ∈ m.wait.flatten) → x ∈ (m.wait.set a (m.wait.getD a [] ++ [g])).flatten := fun x hx => by
      have lm : ∀ y ∈ m.wait.getD a [] ++ [g], y ∈ (m.wait.set a (m.wait.getD a [] ++ [g])).flatten := fun y hy => by
        refine List.mem_flatten.2 ⟨_, ?_, hy⟩
        exact List.mem_iff_getElem.2 ⟨a, by rw [List.length_set]; exact ha, by simp⟩
      rcases hx with e | e
      · exact lm x (by rw [e]; simp)
      · rcases (hs x).2 (.inr e) with q | q
        · exact q
        · exact lm x (List.mem_append_left _ q)
    rcases T3 i hi h3 with e | e | e
    · exact .inr (W i (.inl e))
    · exact .inl e
    · exact .inr (W i (.inr e))
  · have ha : a < m.wait.length := by rw [I.wl]; exact f9 (by omega)
    cases hw : m.wait.getD a [] with
    | nil =>
      have e : opM m g 12 a b c = m.put g (x1 m g) := by
        simp only [opM]; rw [hw]
      rw [e]; exact ⟨h.up, h.cv⟩
    | cons w l =>
      have e : opM m g 12 a b c = { m.put g (x1 m g) with wait := m.wait.set a l, st := m.st.set w 1 } := by
        simp only [opM]; rw [hw]
      rw [e]
      refine ⟨h.up, fun i hi h3 => ?_⟩
      have hi : i < (m.st.set w 1).length := hi
      have h3 : (m.st.set w 1).getD i 0 = 3 := h3
      have hi0 : i < m.st.length := by rw [List.length_set] at hi; exact hi
      have hi := hi0
      have hne : i ≠ w := fun e => by
        rw [← e, getD_set _ _ _ _ hi0, if_pos rfl] at h3; omega
      have h3' : m.st.getD i 0 = 3 := by
        rw [List.getD_eq_getElem?_getD, List.getElem?_set, if_neg (fun e => hne e.symm), ← List.getD_eq_getElem?_getD] at h3; exact h3
      rcases h.cv i hi h3' with q | q
      · exact .inl q
      · right
        have := (mem_flat_set (W := m.wait) (a := a) (x := i) (l := l) ha).2 (.inr q)
        rw [hw] at this
        rcases this with q | q
        · exact q
        · rcases List.mem_cons.1 q with q | q
          · exact absurd q hne
          · refine List.mem_flatten.2 ⟨l, ?_, q⟩
            exact List.mem_iff_getElem.2 ⟨a, by rw [List.length_set]; exact ha, by simp⟩
  · exact ⟨h.up, h.cv⟩
  · exact ⟨h.up, h.cv⟩
  · simp only [opM]; split <;> exact ⟨h.up, h.cv⟩
  · exact ⟨h.up, h.cv⟩
  · simp only [opM]; split <;> exact ⟨h.up, h.cv⟩

theorem in2_tick {F : Fns} {gn n : Nat} {m : MS} (I : Inv F gn n m) (h : In2 m) (k : Nat) : In2 (tickM m k) := by
  obtain ⟨s1, s2, s3, s4⟩ := I.s.tick ((m.clock + k : Nat) : Int)
  refine ⟨up_left h.up _, fun i hi h3 => ?_⟩
  have hi : i < (wakeL m.st (wokeM m k)).length := hi
  have h3 : (wakeL m.st (wokeM m k)).getD i 0 = 3 := h3
  unfold wokeM at hi h3
  rw [s2] at hi
  rw [s3 i] at h3
  split at h3
  · omega
  · next q =>
    rcases h.cv i hi h3 with e | e
    · left
      have := (((due_left ((m.clock + k : Nat) : Int) m.sleep).map (fun p : T13.T3 => p.2.1.toNat)).mem_iff (a := i)).2 e
      rw [List.map_append, List.mem_append] at this
      exact this.resolve_left q
    · exact .inr e

theorem in2_m0 (gn : Nat) : In2 (m0 gn) := ⟨List.Pairwise.nil, fun g hg h3 => by
  have hg : g < 1 := hg
  obtain rfl : g = 0 := by omega
  have h3 : (1 : Nat) = 3 := h3
  omega⟩

theorem cntW_pos (W : List (List Nat)) : ∀ n, 0 < cntW W n → ∃ k, k < n ∧ W.getD k [] ≠ []
  | 0, h => by simp [cntW] at h
  | n + 1, h => by
    have h : 0 < cntW W n + (W.getD n []).length := h
    by_cases q : W.getD n [] = []
    · rw [q] at h
      obtain ⟨k, h1, h2⟩ := cntW_pos W n (by simpa using h)
      exact ⟨k, by omega, h2⟩
    · exact ⟨n, by omega, q⟩
theorem cntW_get (W : List (List Nat)) : ∀ n k, k < n → (W.getD k []).length ≤ cntW W n
  | 0, k, h => by omega
  | n + 1, k, h => by
    show _ ≤ cntW W n + (W.getD n []).length
    by_cases e : k = n
    · subst e; omega
    · have := cntW_get W n k (by omega); omega
/-- What the document tells. -/
def stuckD (m : MS) : Bool := m.st.all (fun s => s != 1) && (m.st.any (fun s => s == 3) && m.sleep.length == 0)
theorem stuck_same {F : Fns} {gn n : Nat} {m : MS} (I : Inv F gn n m) (h : In2 m) : stuckD m = stuckM m := by
  have e1 : m.st.all (fun s => s != 1) = (m.st.count 1 == 0) := by
    rw [Bool.eq_iff_iff, List.all_eq_true, beq_iff_eq, List.count_eq_zero]
    constructor
    · intro q hm
      have := q 1 hm
      simp at this
    · intro q x hx
      simp only [bne_iff_ne]
      intro e
      exact q (e ▸ hx)
  unfold stuckD stuckM
  rw [e1]
  congr 1
  by_cases hs : m.sleep.length = 0
  · have hs0 : m.sleep = [] := List.eq_nil_of_length_eq_zero hs
    have e3 : (m.sleep.length == 0) = true := by simp [hs0]
    rw [e3, Bool.and_true, Bool.true_and, Bool.eq_iff_iff, List.any_eq_true, decide_eq_true_iff]
    constructor
    · rintro ⟨x, hx, hx3⟩
      obtain ⟨g, hg, e⟩ := List.mem_iff_getElem.1 hx
      have h3 : m.st.getD g 0 = 3 := by
        rw [List.getD_eq_getElem?_getD, List.getElem?_eq_getElem hg, Option.getD_some, e]
        exact eq_of_beq hx3
      rcases h.cv g hg h3 with q | q
      · rw [hs0] at q; cases q
      · obtain ⟨l, hl, hgl⟩ := List.mem_flatten.1 q
        obtain ⟨k, hk, e⟩ := List.mem_iff_getElem.1 hl
        have h32 : k < 32 := by rw [← I.wl]; exact hk
        have := cntW_get m.wait 32 k h32
        rw [List.getD_eq_getElem?_getD, List.getElem?_eq_getElem hk, Option.getD_some, e] at this
        have := List.length_pos_of_mem hgl
        omega
    · intro hp
      obtain ⟨k, hk, hne⟩ := cntW_pos m.wait 32 hp
      obtain ⟨x, l, hx⟩ := List.exists_cons_of_ne_nil hne
      have hkl : k < m.wait.length := by rw [I.wl]; exact hk
      have hm : x ∈ m.wait.flatten := List.mem_flatten.2 ⟨m.wait.getD k [], by rw [List.getD_eq_getElem?_getD, List.getElem?_eq_getElem hkl]; exact List.getElem_mem hkl, by rw [hx]; simp⟩
      obtain ⟨q1, q2⟩ := I.s.mem x (List.mem_append_right _ hm)
      refine ⟨3, ?_, by simp⟩
      rw [List.getD_eq_getElem?_getD, List.getElem?_eq_getElem q1, Option.getD_some] at q2
      rw [← q2]; exact List.getElem_mem q1
  · have e3 : (m.sleep.length == 0) = false := by simpa using hs
    rw [e3, Bool.and_false, Bool.false_and]

end Go.Proofs.YtmlobpapjfkbmaaGreat

/- What can be reached, each once, marked as it comes: plain. -/
namespace Go.Proofs.YtmlobpapjfkbmaaGreat
set_option linter.unusedVariables false
set_option maxRecDepth 20000

/-- An identity comes: marked, once. -/
def addS (S : List Bool) (x : Nat) : List Bool := if x = 0 ∨ S.getD x false = true then S else S.set x true
def addL (S : List Bool) (l : List Nat) (x : Nat) : List Nat := if x = 0 ∨ S.getD x false = true then l else l ++ [x]

structure QInv (m : MS) (k : Nat) (S : List Bool) (l : List Nat) : Prop where
  len : S.length = m.slots.length
  ok : ∀ i, S.getD i false = true → Rch m i
  mem : ∀ x ∈ l, 0 < x ∧ x < m.slots.length ∧ S.getD x false = true
  nd : l.Nodup
  cl : ∀ i, S.getD i false = true → i ∈ l.drop k ∨ ∀ x ∈ m.slots.getD i [], x = 0 ∨ S.getD x false = true
theorem Rch.ne0 {m : MS} {i : Nat} (h : Rch m i) : i ≠ 0 := by cases h <;> assumption
theorem QInv.s0 {m : MS} {k : Nat} {S : List Bool} {l : List Nat} (h : QInv m k S l) : S.getD 0 false = false := by
  cases e : S.getD 0 false
  · rfl
  · exact absurd rfl (h.ok 0 e).ne0
theorem QInv.start (m : MS) : QInv m 0 (List.replicate m.slots.length false) [] := by
  have hf : ∀ i, (List.replicate m.slots.length false).getD i false = false := fun i => by
    rw [List.getD_eq_getElem?_getD, List.getElem?_replicate]; split <;> rfl
  refine ⟨by simp, fun i hi => ?_, fun x hx => (by cases hx), List.nodup_nil, fun i hi => ?_⟩
  · rw [hf] at hi; cases hi
  · rw [hf] at hi; cases hi
theorem addS_len (S : List Bool) (x : Nat) : (addS S x).length = S.length := by
  unfold addS; split
  · rfl
  · simp
theorem addS_mono {S : List Bool} {x : Nat} (i : Nat) (h : S.getD i false = true) : (addS S x).getD i false = true := by
  unfold addS; split
  · exact h
  · by_cases hx : x < S.length
    · rw [getD_set_b S x i hx]; split
      · rfl
      · exact h
    · rw [List.set_eq_of_length_le (by omega)]; exact h
theorem addS_hit {S : List Bool} {x : Nat} (hx : x < S.length) : x = 0 ∨ (addS S x).getD x false = true := by
  unfold addS; split
  · next h => exact h
  · right; rw [getD_set_b S x x hx, if_pos rfl]
theorem QInv.le {m : MS} {k : Nat} {S : List Bool} {l : List Nat} (h : QInv m k S l) : l.length ≤ m.slots.length := by
  have : l.length ≤ (List.range m.slots.length).length := h.nd.length_le_of_subset (fun x hx => List.mem_range.2 (h.mem x hx).2.1)
  simpa using this
theorem QInv.add {m : MS} {k : Nat} {S : List Bool} {l : List Nat} (h : QInv m k S l) (hk : k ≤ l.length) {x : Nat} (hr : x = 0 ∨ Rch m x) (hx : x < m.slots.length) : QInv m k (addS S x) (addL S l x) := by
  by_cases hc : x = 0 ∨ S.getD x false = true
  · have e1 : addS S x = S := if_pos hc
    have e2 : addL S l x = l := if_pos hc
    rw [e1, e2]; exact h
  · have e1 : addS S x = S.set x true := if_neg hc
    have e2 : addL S l x = l ++ [x] := if_neg hc
    have hxs : x < S.length := by rw [h.len]; exact hx
    have hs := fun i => getD_set_b S x i hxs
    have up : ∀ i, S.getD i false = true → (S.set x true).getD i false = true := fun i hi => by
      rw [hs]; split
      · rfl
      · exact hi
    rw [e1, e2]
    refine ⟨by simp [h.len], fun i hi => ?_, fun y hy => ?_, ?_, fun i hi => ?_⟩
    · rw [hs] at hi
      split at hi
      · next e => rw [e]; exact hr.resolve_left (fun e => hc (.inl e))
      · exact h.ok i hi
    · rcases List.mem_append.1 hy with hy | hy
      · exact ⟨(h.mem y hy).1, (h.mem y hy).2.1, up y (h.mem y hy).2.2⟩
      · obtain rfl := List.mem_singleton.1 hy
        exact ⟨Nat.pos_of_ne_zero (fun e => hc (.inl e)), hx, by rw [hs, if_pos rfl]⟩
    · rw [List.nodup_append]
      refine ⟨h.nd, by simp, fun a ha b hb e => ?_⟩
      obtain rfl := List.mem_singleton.1 hb
      subst e
      exact hc (.inr (h.mem a ha).2.2)
    · have hd : (l ++ [x]).drop k = l.drop k ++ [x] := List.drop_append_of_le_length hk
      rw [hd]
      rw [hs] at hi
      split at hi
      · next e => left; rw [e]; simp
      · rcases h.cl i hi with q | q
        · left; exact List.mem_append_left _ q
        · right; intro y hy
          rcases q y hy with q | q
          · exact .inl q
          · exact .inr (up y q)
theorem addL_le (S : List Bool) (l : List Nat) (x : Nat) : l.length ≤ (addL S l x).length := by
  unfold addL; split <;> simp
theorem addL_at (S : List Bool) (l : List Nat) (x i : Nat) (hi : i < l.length) : (addL S l x).getD i 0 = l.getD i 0 := by
  unfold addL; split
  · rfl
  · rw [List.getD_eq_getElem?_getD, List.getD_eq_getElem?_getD, List.getElem?_append_left hi]
/-- One is done. -/
theorem QInv.pop {m : MS} {k : Nat} {S : List Bool} {l : List Nat} (h : QInv m k S l) {x : Nat} (hk : k < l.length) (hx : l.getD k 0 = x) (hd : ∀ y ∈ m.slots.getD x [], y = 0 ∨ S.getD y false = true) : QInv m (k + 1) S l := by
  refine ⟨h.len, h.ok, h.mem, h.nd, fun i hi => ?_⟩
  rcases h.cl i hi with q | q
  · rw [List.drop_eq_getElem_cons hk] at q
    rcases List.mem_cons.1 q with q | q
    · right
      have : i = x := by rw [q, ← hx]; simp [hk]
      rw [this]; exact hd
    · exact .inl q
  · exact .inr q
theorem QInv.done {m : MS} {S : List Bool} {l : List Nat} (h : QInv m l.length S l) (hr : ∀ i ∈ rootsM m, i = 0 ∨ S.getD i false = true) : RInv m [] S := by
  refine ⟨h.len, h.ok, fun x hx => (by cases hx), fun x hx => (by cases hx), fun i hi => ?_, fun i hi x hx => ?_⟩
  · rcases hr i hi with q | q
    · exact .inl q
    · exact .inr (.inl q)
  · rcases h.cl i hi with q | q
    · rw [List.drop_length] at q; cases q
    · rcases q x hx with q | q
      · exact .inl q
      · exact .inr (.inl q)
/-- Those from 1 on that are seen. -/
theorem seen_1 {S : List Bool} (h : S.getD 0 false = false) : seenTo S 1 = [] := by
  rw [seen_miss h]; rfl

end Go.Proofs.YtmlobpapjfkbmaaGreat

/- The document's add: an identity that is reached, behind those that were, once. -/
namespace Go.Proofs.YtmlobpapjfkbmaaGreat
open Go.RowKit
set_option linter.unusedVariables false
set_option maxRecDepth 20000
set_option linter.unusedSimpArgs false

/-- The marks, and those that were reached. -/
structure QM (B : Nat) (w : World) (ib n : Nat) (lv : Value) (S : List Bool) (L : List Nat) : Prop where
  box : Box w ib (bools S).toArray 4
  len : S.length = n
  bb : B ≤ ib
  row : RowI w B lv L
  ne : ∀ b, lv.ownBlock = some b → b ≠ ib
theorem QM.ex {B : Nat} {w w' : World} {ib n : Nat} {lv : Value} {S : List Bool} {L : List Nat} (h : QM B w ib n lv S L) (x : Ex w w') : QM B w' ib n lv S L := ⟨h.box.ex x, h.len, h.bb, h.row.ex x, h.ne⟩
theorem bools_at (S : List Bool) {x : Nat} (hx : x < S.length) : (bools S).toArray[x]? = some (.bool (S.getD x false)) := by
  simp [bools, hx]
/-- What add leaves. -/
def AddQ (B : Nat) (w : World) (ib n : Nat) (S : List Bool) (L : List Nat) (x : Nat) (e : Ending) (w' : World) : Prop :=
  ∃ v, e = .returned v ∧ QM B w' ib n v (addS S x) (addL S L x) ∧ Chg (fun i => B ≤ i) w w'
theorem addq_same {B : Nat} {w : World} {ib n : Nat} {lv : Value} {S : List Bool} {L : List Nat} (h : QM B w ib n lv S L) {x : Nat} (hx : x = 0 ∨ S.getD x false = true) : AddQ B w ib n S L x (.returned lv) w := by
  have e1 : addS S x = S := if_pos hx
  have e2 : addL S L x = L := if_pos hx
  refine ⟨lv, rfl, ?_, Chg.refl _ _⟩
  rw [e1, e2]; exact h
theorem addq_new {B : Nat} {w w4 : World} {ib n : Nat} {lv v' : Value} {S : List Bool} {L : List Nat} (h : QM B w ib n lv S L) (hB : B ≤ w.heap.size) {x : Nat} (hx : ¬ (x = 0 ∨ S.getD x false = true))
    (h6 : RowI w4 B v' (L ++ [x])) (h7 : ((w.setCell ⟨ib, x, none⟩ (.bool true)).alloc (.cells #[.int .i64 (x : Nat)] 3)).grownBy w4 lv.ownBlock)
    (h8 : v'.ownBlock = lv.ownBlock ∨ v'.ownBlock = some (w.heap.size + 1)) : AddQ B w ib n S L x (.returned v') w4 := by
  have e1 : addS S x = S.set x true := if_neg hx
  have e2 : addL S L x = L ++ [x] := if_neg hx
  have b1 : Box (w.setCell ⟨ib, x, none⟩ (.bool true)) ib (bools (S.set x true)).toArray 4 := by rw [← bools_set]; exact h.box.put x _
  have b2 := b1.ex (Ex.made _ (.cells #[.int .i64 (x : Nat)] 3))
  have b3 := (h7.block ib b2.lt (fun e => h.ne ib e.symm rfl)).trans b2
  have k1 := Chg.cell (F := fun i => B ≤ i) w ⟨ib, x, none⟩ (.bool true) h.bb
  have k2 := k1.ex (Ex.made _ (.cells #[.int .i64 (x : Nat)] 3))
  have k3 := k2.trans (Chg.grown (F := fun i => B ≤ i) h7 (fun i hi => (h.row.lt i hi).1)) (fun _ _ h => h)
  refine ⟨v', rfl, ?_, k3⟩
  rw [e1, e2]
  refine ⟨b3, by rw [List.length_set]; exact h.len, h.bb, h6, fun b hb => ?_⟩
  rcases h8 with h8 | h8
  · exact h.ne b (h8 ▸ hb)
  · rw [h8] at hb
    have := Option.some.inj hb
    have := h.box.lt
    omega

set_option maxHeartbeats 6400000 in
theorem qadd_any {B : Nat} {w : World} {ib n : Nat} {lv : Value} {S : List Bool} {L : List Nat} (h : QM B w ib n lv S L) (hB : B ≤ w.heap.size) (x : Nat) (hx : x < n) (hn : n ≤ 100000) (hL : L.length ≤ 200000) :
    Calls Tryz.prog 77 #[.slice (some ⟨ib, 0, none⟩) n n, lv, .int .i64 (x : Nat)] w (AddQ B w ib n S L x) := by
  have HQ := Lib.hid h
  have HB := Lib.hid hB
  have hx0 : (0 : Int) ≤ (x : Int) := by omega
  have hxn : (x : Int) < (n : Int) := by omega
  have hc := h.box.cell x
  rw [bools_at S (by rw [h.len]; exact hx)] at hc
  have hf := h.box.soft x
  have ilt := h.box.lt
  by_cases e0 : x = 0
  · have HE : Hid (AddQ B w ib n S L x (.returned lv) w) := Lib.hid (addq_same h (.inl e0))
    have i0 : (x : Int) ≤ 0 := by omega
    clear h hc hf e0
    go_enter Tryz.func77, Tryz.ntmps77
    go_wp2_with fail
    go_ret
    exact HE.out
  · have i0 : ¬ (x : Int) ≤ 0 := by omega
    cases hS : S.getD x false with
    | true =>
      rw [hS] at hc
      have HE : Hid (AddQ B w ib n S L x (.returned lv) w) := Lib.hid (addq_same h (.inr hS))
      clear h hf e0 hS
      go_enter Tryz.func77, Tryz.ntmps77
      go_wp2_with fail
      go_ret
      exact HE.out
    | false =>
      rw [hS] at hc
      have HS : Hid (¬ (x = 0 ∨ S.getD x false = true)) := Lib.hid (fun e => by rcases e with e | e; exact e0 e; rw [hS] at e; cases e)
      have O3 : Hid (RowI ((w.setCell ⟨ib, x, none⟩ (.bool true)).alloc (.cells #[.int .i64 (x : Nat)] 3)) B lv L) := Lib.hid (RowI.ex (row_chg h.row (Chg.cell (F := fun i => i = ib) w ⟨ib, x, none⟩ (.bool true) rfl) (fun b hb e => h.ne b hb e)) (Ex.made _ _))
      have hz : (w.setCell ⟨ib, x, none⟩ (.bool true)).heap.size = w.heap.size := by simp [World.setCell]
      have hr1 := rn_one (w.setCell ⟨ib, x, none⟩ (.bool true)) x
      rw [hz] at hr1
      have HR1 := Lib.hid hr1
      have hsz : B ≤ ((w.setCell ⟨ib, x, none⟩ (.bool true)).alloc (.cells #[.int .i64 (x : Nat)] 3)).heap.size := by simp [World.setCell]; omega
      have HSZ := Lib.hid hsz
      clear h e0 hS hsz hz hr1
      go_enter Tryz.func77, Tryz.ntmps77
      go_wp2_with (at_builtin; refine wpList_append_I _ rfl (.tmp 19) (.tmp 21) rfl (l := L) (M := [x]) rfl O3.out HSZ.out rfl HR1.out (by simp; omega) ?_)
      intro v' w4 h6 h7 h8
      have HE := Lib.hid (addq_new HQ.out HB.out HS.out h6 h7 h8)
      clear h6 h7 h8
      go_wp2
      go_ret
      exact HE.out

end Go.Proofs.YtmlobpapjfkbmaaGreat

