/- Part 10 of what is proved of the program of layer 16: StoreC16, Read16, DoB16, Read16B, DoC16. -/
import Derived.Test.YtmlobpapjfkbmaaGreatK9
import Derived.BigQuiet
/- The last store of a region that draws: what is told, whole. -/
namespace Go.Proofs.YtmlobpapjfkbmaaGreat
open Go.RowKit
set_option linter.unusedVariables false
set_option maxRecDepth 20000
set_option linter.unusedSimpArgs false

def put6 (Y : World) (b : Nat) (g f pc op v : Int) (bad : Bool) : World :=
  (((((Y.setCell ⟨b, 0, none⟩ (.int .i64 g)).setCell ⟨b, 1, none⟩ (.int .i64 f)).setCell ⟨b, 2, none⟩ (.int .i64 pc)).setCell ⟨b, 3, none⟩ (.int .i64 op)).setCell ⟨b, 4, none⟩ (.int .i64 v)).setCell ⟨b, 5, none⟩ (.bool bad)
theorem put6_box {Y : World} {b : Nat} {g' f' pc' op' v' : Int} {bad' : Bool} (h : Box Y b (ccells g' f' pc' op' v' bad') 50) (g f pc op v : Int) (bad : Bool) : Box (put6 Y b g f pc op v bad) b (ccells g f pc op v bad) 50 :=
  (((((h.put 0 _).put 1 _).put 2 _).put 3 _).put 4 _).put 5 _
theorem put6_chg (Y : World) (b : Nat) (g f pc op v : Int) (bad : Bool) : Chg (fun i => i = b) Y (put6 Y b g f pc op v bad) :=
  (((((Chg.cell (F := fun i => i = b) Y ⟨b, 0, none⟩ _ rfl).trans (Chg.cell (F := fun i => i = b) _ ⟨b, 1, none⟩ _ rfl) (fun _ _ h => h)).trans (Chg.cell (F := fun i => i = b) _ ⟨b, 2, none⟩ _ rfl) (fun _ _ h => h)).trans (Chg.cell (F := fun i => i = b) _ ⟨b, 3, none⟩ _ rfl) (fun _ _ h => h)).trans (Chg.cell (F := fun i => i = b) _ ⟨b, 4, none⟩ _ rfl) (fun _ _ h => h)).trans (Chg.cell (F := fun i => i = b) _ ⟨b, 5, none⟩ _ rfl) (fun _ _ h => h)
theorem heldL_store_cm {ops : Array Oper} {a : Act} {Q : Exit → Act → World → Prop} {S : World → Prop} {Y : World} {b n fuel : Nat} {g f pc op v g' f' pc' op' v' : Int} {bad bad' : Bool} {listed : Array Bool} (p q : Tmp)
    (hr : Region.ready .any ops listed = [n]) (hr2 : Region.ready .any ops (listed.setIfInBounds n true) = [])
    (ho : (ops[n]?).map (fun o => (o.op, o.guard, o.dst)) = some (.store 50 (.tmp p) (.tmp q), none, none)) (hp : a.eval (.tmp p) = .pointer (some ⟨b, 0, none⟩)) (hv : a.eval (.tmp q) = .agg (ccells g f pc op v bad))
    (hb : Box Y b (ccells g' f' pc' op' v' bad') 50) (k : Q .normal a (put6 Y b g f pc op v bad)) : HeldL Tryz.prog .any ops Q S n (fuel + 1) listed a Y := by
  have c0 : Y.cell? ⟨b, 0, none⟩ = some (.int .i64 g') := hb.cell 0
  have c1 : Y.cell? ⟨b, 1, none⟩ = some (.int .i64 f') := hb.cell 1
  have c2 : Y.cell? ⟨b, 2, none⟩ = some (.int .i64 pc') := hb.cell 2
  have c3 : Y.cell? ⟨b, 3, none⟩ = some (.int .i64 op') := hb.cell 3
  have c4 : Y.cell? ⟨b, 4, none⟩ = some (.int .i64 v') := hb.cell 4
  have c5 : Y.cell? ⟨b, 5, none⟩ = some (.bool bad') := hb.cell 5
  have f0 := hb.soft 0
  have f1 := hb.soft 1
  have f2 := hb.soft 2
  have f3 := hb.soft 3
  have f4 := hb.soft 4
  have f5 := hb.soft 5
  unfold ccells at hv
  unfold put6 at k
  clear hb
  cases hi : ops[n]? with
  | none => rw [hi] at ho; cases ho
  | some o =>
    rw [hi] at ho
    simp only [Option.map_some, Option.some.injEq, Prod.mk.injEq] at ho
    obtain ⟨ho, hgd, hd⟩ := ho
    refine heldL_last hr hr2 (wpOp_step hi fun K' hK => ?_)
    have hw : Region.wanted o (yielded ops a.tmps) = true := by simp [Region.wanted, hgd]
    rw [if_pos hw]
    unfold Oper.wp execOp
    simp only [ho, hp, hv]
    go_simp
    exact hK _ _ k

end Go.Proofs.YtmlobpapjfkbmaaGreat

/- A model is read: State, Gs, Ids, Next. -/
namespace Go.Proofs.YtmlobpapjfkbmaaGreat
open Go.RowKit
set_option linter.unusedVariables false
set_option maxRecDepth 20000
set_option linter.unusedSimpArgs false

/-- A goroutine's state, as it is told. -/
def staI (m : MS) (g : Nat) : Nat := if m.st.getD g 0 = 2 then 1 else m.st.getD g 0
set_option maxHeartbeats 1600000 in
theorem state_any {w : World} {A : Adr} {t : Nat → Tg} {mb : Nat} {F : Fns} {m : MS} (h : Md w A t mb F m) (g : Nat) (s : Nat) (hs : staI m g = s) :
    Calls Tryz.prog 18 #[.pointer (some ⟨mb, 0, none⟩), .int .i64 (g : Nat)] w fun e w' => e = .returned (.int .i64 (s : Nat)) ∧ w = w' := by
  have c2 : w.cell? ⟨mb, 2, none⟩ = some (.pointer (some ⟨A.sb, 0, none⟩)) := h.box.box.cell 2
  have K : Hid (Calls Tryz.prog 48 #[.pointer (some ⟨A.sb, 0, none⟩), .int .i64 (g : Nat)] w fun e w' => e = .returned (.int .i64 (m.st.getD g 0 : Nat)) ∧ w = w') := by
    by_cases hg : g < m.st.length
    · exact Lib.hid (S12.of_in h.st g hg _ rfl)
    · have h0 : m.st.getD g 0 = 0 := by simp [Nat.not_lt.1 hg]
      rw [h0]
      exact Lib.hid (S12.of_out h.st (g : Nat) (.inr ⟨by omega, by omega⟩))
  unfold staI at hs
  obtain ⟨q, hq⟩ : ∃ q, m.st.getD g 0 = q := ⟨_, rfl⟩
  rw [hq] at K hs
  clear h hq
  by_cases h2 : q = 2
  · rw [if_pos h2] at hs
    subst hs h2
    rw [show ((2 : Nat) : Int) = 2 from rfl] at K
    go_enter Tryz.func18, Tryz.ntmps18
    go_wp2_with fail
    refine K.out.mono ?_
    rintro e w' ⟨rfl, rfl⟩
    go_wp2_with fail
    go_ret
    exact ⟨rfl, rfl⟩
  · rw [if_neg h2] at hs
    subst hs
    have hd : ((q : Int) == 2) = false := by simp; omega
    have hd2 : ((q : Int) != 2) = true := by simp; omega
    go_enter Tryz.func18, Tryz.ntmps18
    go_wp2_with fail
    refine K.out.mono ?_
    rintro e w' ⟨rfl, rfl⟩
    go_wp2_with fail
    go_ret
    exact ⟨rfl, rfl⟩
theorem state_neg {w : World} {A : Adr} {t : Nat → Tg} {mb : Nat} {F : Fns} {m : MS} (h : Md w A t mb F m) (g : Int) (hg : g < 0) :
    Calls Tryz.prog 18 #[.pointer (some ⟨mb, 0, none⟩), .int .i64 g] w fun e w' => e = .returned (.int .i64 0) ∧ w = w' := by
  have c2 : w.cell? ⟨mb, 2, none⟩ = some (.pointer (some ⟨A.sb, 0, none⟩)) := h.box.box.cell 2
  have K := Lib.hid (S12.of_out h.st g (.inl hg))
  clear h
  go_enter Tryz.func18, Tryz.ntmps18
  go_wp2_with fail
  refine K.out.mono ?_
  rintro e w' ⟨rfl, rfl⟩
  go_wp2_with fail
  go_ret
  exact ⟨rfl, rfl⟩

theorem gs_any {w : World} {A : Adr} {t : Nat → Tg} {mb : Nat} {F : Fns} {m : MS} (h : Md w A t mb F m) :
    Calls Tryz.prog 35 #[.pointer (some ⟨mb, 0, none⟩)] w fun e w' => e = .returned (.int .i64 (m.gs.length : Nat)) ∧ w = w' := by
  have c3 : w.cell? ⟨mb, 3, none⟩ = some A.gv := h.box.box.cell 3
  obtain ⟨a, c, hv⟩ := T13.row_val h.grow.row
  rw [hv] at c3
  clear h hv
  go_enter Tryz.func35, Tryz.ntmps35
  go_wp2_with fail
  go_ret
  exact ⟨rfl, rfl⟩
theorem ids_any {w : World} {A : Adr} {t : Nat → Tg} {mb : Nat} {F : Fns} {m : MS} (h : Md w A t mb F m) (h0 : 0 < m.slots.length) (hn : m.slots.length ≤ 100000) :
    Calls Tryz.prog 16 #[.pointer (some ⟨mb, 0, none⟩)] w fun e w' => e = .returned (.int .i64 ((m.slots.length - 1 : Nat) : Int)) ∧ w = w' := by
  have c5 : w.cell? ⟨mb, 5, none⟩ = some A.lv := h.box.box.cell 5
  obtain ⟨a, c, hv⟩ := T13.row_val h.slr.row
  rw [hv] at c5
  obtain ⟨k, hk⟩ : ∃ k, m.slots.length = k + 1 := ⟨m.slots.length - 1, by omega⟩
  rw [hk] at c5 hn ⊢
  rw [Nat.add_sub_cancel]
  have e1 : IntKind.i64.wrap (((k + 1 : Nat) : Int) - 1) = (k : Int) := by rw [IntKind.wrap_i64]; omega
  clear h hv hk h0
  go_enter Tryz.func16, Tryz.ntmps16
  go_wp2_with fail
  go_ret
  exact ⟨by rfl, rfl⟩

def instV (i : C15.I4) : Value := .agg #[.int .i64 i.1, .int .i64 i.2.1, .int .i64 i.2.2.1, .int .i64 i.2.2.2]
/-- The row of goroutines, read. -/
theorem Md.gvat {w : World} {A : Adr} {t : Nat → Tg} {mb : Nat} {F : Fns} {m : MS} (h : Md w A t mb F m) {g : Nat} (hg : g < m.gs.length) : ∃ b cap, A.gv = .slice (some ⟨b, 0, none⟩) m.gs.length cap ∧ b < w.heap.size ∧ m.gs.length ≤ cap ∧ w.cell? ⟨b, g, none⟩ = some (.pointer (some ⟨A.gb g, 0, none⟩)) := by
  rcases row_shape h.grow.row with ⟨-, h2, -⟩ | ⟨b, cap, h1, -, h3, h4, -⟩
  · omega
  · have hr := h.grow.row
    rw [h1] at hr
    refine ⟨b, cap, h1, h3, h4, ?_⟩
    rw [hr.cellAt g (by omega)]
    simp [ptrs, hg]
theorem Md.rd {w : World} {A : Adr} {t : Nat → Tg} {mb : Nat} {F : Fns} {m : MS} (h : Md w A t mb F m) : C15.RdP w A.fv F := h.prog w (Chg.refl _ _)

theorem inst_box {w W : World} (e : Ex w W) (hb : Box W w.heap.size #[.int .i64 0, .int .i64 0, .int .i64 0, .int .i64 0] 58) (x0 x1 x2 x3 : Int) :
    Box ((((W.setCell ⟨w.heap.size, 0, none⟩ (.int .i64 x0)).setCell ⟨w.heap.size, 1, none⟩ (.int .i64 x1)).setCell ⟨w.heap.size, 2, none⟩ (.int .i64 x2)).setCell ⟨w.heap.size, 3, none⟩ (.int .i64 x3)) w.heap.size #[.int .i64 x0, .int .i64 x1, .int .i64 x2, .int .i64 x3] 58 ∧
    Ex w ((((W.setCell ⟨w.heap.size, 0, none⟩ (.int .i64 x0)).setCell ⟨w.heap.size, 1, none⟩ (.int .i64 x1)).setCell ⟨w.heap.size, 2, none⟩ (.int .i64 x2)).setCell ⟨w.heap.size, 3, none⟩ (.int .i64 x3)) :=
  ⟨(((hb.put 0 _).put 1 _).put 2 _).put 3 _, (((Below.setCell e (p := ⟨w.heap.size, 0, none⟩) (Nat.le_refl _) _).setCell (p := ⟨w.heap.size, 1, none⟩) (Nat.le_refl _) _).setCell (p := ⟨w.heap.size, 2, none⟩) (Nat.le_refl _) _).setCell (p := ⟨w.heap.size, 3, none⟩) (Nat.le_refl _) _⟩

set_option maxHeartbeats 3200000 in
theorem next_ok {w : World} {A : Adr} {t : Nat → Tg} {mb : Nat} {F : Fns} {m : MS} (h : Md w A t mb F m) (hn : m.gs.length ≤ 1024) {g : Nat} (hg : g < m.gs.length) (hs0 : staI m g ≠ 0) (hs5 : staI m g ≠ 5) (hf : (m.at g).f < F.length) (hF : F.length ≤ 16) (hl : ∀ l ∈ F, l.length ≤ 64) (hpc : (m.at g).pc ≤ 1000) :
    Calls Tryz.prog 28 #[.pointer (some ⟨mb, 0, none⟩), .int .i64 (g : Nat)] w fun e w' => e = .returned (.tuple #[instV (instAt F (m.at g)), .bool true]) ∧ Ex w w' := by
  have K := Lib.hid (fun W (x : Ex w W) => state_any (h.exs x) g _ rfl)
  obtain ⟨s, hs⟩ : ∃ s, staI m g = s := ⟨_, rfl⟩
  rw [hs] at K hs0 hs5
  obtain ⟨rb, rc, hgv, rlt, rcap, rcell⟩ := h.gvat hg
  have c3 : w.cell? ⟨mb, 3, none⟩ = some A.gv := h.box.box.cell 3
  rw [hgv] at c3
  have c1 : w.cell? ⟨mb, 1, none⟩ = some A.fv := h.box.box.cell 1
  have hB := (h.gor g hg).box
  have g0 : w.cell? ⟨A.gb g, 0, none⟩ = some (.int .i64 ((m.at g).f : Nat)) := by rw [hB.cell]; rfl
  have g1 : w.cell? ⟨A.gb g, 1, none⟩ = some (.int .i64 ((m.at g).pc : Nat)) := by rw [hB.cell]; rfl
  have glt := hB.lt
  have mlt := h.box.box.lt
  obtain ⟨fa, fc, hfv⟩ := h.rd.val
  have hrd := h.rd
  rw [hfv] at c1 hrd
  obtain ⟨l, hll⟩ : ∃ l, F[(m.at g).f]? = some l := ⟨F[(m.at g).f], by simp [hf]⟩
  have hlm : l.length ≤ 64 := hl l (List.mem_of_getElem? hll)
  obtain ⟨fg, fo, la, lc, rfl, -, fcap, flt, fcell, lcap, hri⟩ := hrd.at2 hll
  have hin : instAt F (m.at g) = l.getD (m.at g).pc (0, 0, 0, 0) := by unfold instAt; simp [hll]
  obtain ⟨gl, hgl⟩ : ∃ gl, m.gs.length = gl := ⟨_, rfl⟩
  rw [hgl] at c3 rcap hg hn
  obtain ⟨Fl, hFl⟩ : ∃ Fl, F.length = Fl := ⟨_, rfl⟩
  rw [hFl] at c1 fcap hf hF
  rw [hin]
  obtain ⟨f, hff⟩ : ∃ f, (m.at g).f = f := ⟨_, rfl⟩
  obtain ⟨pc, hpp⟩ : ∃ pc, (m.at g).pc = pc := ⟨_, rfl⟩
  rw [hff] at g0 hf fcell
  rw [hpp] at g1 hpc ⊢
  obtain ⟨gb, hgb⟩ : ∃ gb, A.gb g = gb := ⟨_, rfl⟩
  rw [hgb] at rcell g0 g1 glt
  have i1 : (g : Int) < (gl : Int) := by omega
  have i2 : (f : Int) < (Fl : Int) := by omega
  have d0 : ((s : Int) == 0) = false := by simp; omega
  have d5 : ((s : Int) == 5) = false := by simp; omega
  have HRI := Lib.hid hri
  clear h hgv hs hB hfv hrd hll hin hgl hFl hff hpp hgb hri hl hs0 hs5
  by_cases hlt : pc < l.length
  · obtain ⟨ig, io, rfl, ilt, j0, j1, j2, j3⟩ := HRI.out.at pc hlt
    have hget : l.getD pc (0, 0, 0, 0) = l[pc] := by simp [hlt]
    rw [hget]
    obtain ⟨x, hx⟩ : ∃ x, l[pc] = x := ⟨_, rfl⟩
    rw [hx] at j0 j1 j2 j3 ⊢
    obtain ⟨x0, x1, x2, x3⟩ := x
    obtain ⟨ll, hlle⟩ : ∃ ll, l.length = ll := ⟨_, rfl⟩
    rw [hlle] at fcell lcap hlt hlm
    have i3 : (pc : Int) < (ll : Int) := by omega
    unfold instV
    clear HRI hget hx hlle
    go_enter Tryz.func28, Tryz.ntmps28
    go_wp2_with fail
    refine (K.out _ (Ex.made _ _)).mono ?_
    rintro e w' ⟨rfl, rfl⟩
    go_wp2_with fail
    go_quiet (fail)
    go_wp2_with fail
    have e1 : Ex w ((w.alloc (.cells #[.int .i64 0, .int .i64 0, .int .i64 0, .int .i64 0] 58)).drewN nq) := (Ex.made _ _).trans (Ex.drawn _ _)
    obtain ⟨bz, ez⟩ := inst_box (w := w) e1 ((Box.fresh w #[.int .i64 0, .int .i64 0, .int .i64 0, .int .i64 0] 58).ex (Ex.drawn _ nq)) x0 x1 x2 x3
    have q0 := bz.cell 0
    have q1 := bz.cell 1
    have q2 := bz.cell 2
    have q3 := bz.cell 3
    simp only [List.getElem?_toArray, List.getElem?_cons_zero, List.getElem?_cons_succ] at q0 q1 q2 q3
    refine bodyPost_ret (v := .tuple #[.agg #[.int .i64 x0, .int .i64 x1, .int .i64 x2, .int .i64 x3], .bool true]) ?_ rfl ⟨rfl, ez⟩
    generalize ((((((w.alloc (.cells #[.int .i64 0, .int .i64 0, .int .i64 0, .int .i64 0] 58)).drewN nq).setCell ⟨w.heap.size, 0, none⟩ (.int .i64 x0)).setCell ⟨w.heap.size, 1, none⟩ (.int .i64 x1)).setCell ⟨w.heap.size, 2, none⟩ (.int .i64 x2)).setCell ⟨w.heap.size, 3, none⟩ (.int .i64 x3)) = Z at q0 q1 q2 q3 ⊢
    simp [results, Tryz.results28, go_sem, q0, q1, q2, q3]
  · have hget : l.getD pc (0, 0, 0, 0) = (0, 0, 0, 0) := by simp [Nat.not_lt.1 hlt]
    rw [hget]
    obtain ⟨ll, hlle⟩ : ∃ ll, l.length = ll := ⟨_, rfl⟩
    rw [hlle] at fcell lcap hlt hlm
    have i3 : ¬ (pc : Int) < (ll : Int) := by omega
    unfold instV
    clear HRI hget hlle
    go_enter Tryz.func28, Tryz.ntmps28
    go_wp2_with fail
    refine (K.out _ (Ex.made _ _)).mono ?_
    rintro e w' ⟨rfl, rfl⟩
    go_wp2_with fail
    go_quiet (fail)
    go_wp2_with fail
    have e1 : Ex w ((w.alloc (.cells #[.int .i64 0, .int .i64 0, .int .i64 0, .int .i64 0] 58)).drewN nq) := (Ex.made _ _).trans (Ex.drawn _ _)
    obtain ⟨bz, ez⟩ := inst_box (w := w) e1 ((Box.fresh w #[.int .i64 0, .int .i64 0, .int .i64 0, .int .i64 0] 58).ex (Ex.drawn _ nq)) 0 0 0 0
    have q0 := bz.cell 0
    have q1 := bz.cell 1
    have q2 := bz.cell 2
    have q3 := bz.cell 3
    simp only [List.getElem?_toArray, List.getElem?_cons_zero, List.getElem?_cons_succ] at q0 q1 q2 q3
    refine bodyPost_ret (v := .tuple #[.agg #[.int .i64 0, .int .i64 0, .int .i64 0, .int .i64 0], .bool true]) ?_ rfl ⟨rfl, ez⟩
    generalize ((((((w.alloc (.cells #[.int .i64 0, .int .i64 0, .int .i64 0, .int .i64 0] 58)).drewN nq).setCell ⟨w.heap.size, 0, none⟩ (.int .i64 0)).setCell ⟨w.heap.size, 1, none⟩ (.int .i64 0)).setCell ⟨w.heap.size, 2, none⟩ (.int .i64 0)).setCell ⟨w.heap.size, 3, none⟩ (.int .i64 0)) = Z at q0 q1 q2 q3 ⊢
    simp [results, Tryz.results28, go_sem, q0, q1, q2, q3]

end Go.Proofs.YtmlobpapjfkbmaaGreat

/- A model's Do, of a goroutine that may run. -/
namespace Go.Proofs.YtmlobpapjfkbmaaGreat
open Go.RowKit
set_option linter.unusedVariables false
set_option maxRecDepth 20000
set_option linter.unusedSimpArgs false

/-- A state is turned: the places known. -/
theorem move_at {w : World} {A : Adr} {t : Nat → Tg} {mb : Nat} {F : Fns} {m : MS} (h : Md w A t mb F m) (n : New w t) (g s : Nat) :
    Calls Tryz.prog 26 #[.pointer (some ⟨A.sb, 0, none⟩), .int .i64 (g : Nat), .int .i64 (s : Nat)] w fun e w' => (∃ r : Int, e = .returned (.int .i64 r)) ∧
      ∃ v' t', Md w' { A with sv := v' } t' mb F (m.mv g s) ∧ New w' t' ∧ (∀ i, i < w.heap.size → t' i = t i) ∧ Chg (fun i => (t i).1 ≠ 0) w w' ∧ Chg (S12.Of A.sb A.sv) w w' := by
  have same : ∀ w', Ex w w' → ∃ v' t', Md w' { A with sv := v' } t' mb F m ∧ New w' t' ∧ (∀ i, i < w.heap.size → t' i = t i) ∧ Chg (fun i => (t i).1 ≠ 0) w w' ∧ Chg (S12.Of A.sb A.sv) w w' := fun w' x =>
    ⟨A.sv, t, h.exs x, n.le x.size, fun _ _ => rfl, x.chg _, x.chg _⟩
  by_cases hg : g < m.st.length
  · cases hm : S12.mayB (m.st.getD g 0 : Nat) (s : Nat) with
    | true =>
      refine (S12.move_yes h.st g hg _ s rfl hm).mono ?_
      rintro e w' ⟨rfl, hn⟩
      rw [mv_yes hm]
      exact ⟨⟨_, rfl⟩, states_md h n hn⟩
    | false =>
      refine (S12.move_no h.st g hg _ (s : Nat) rfl hm).mono ?_
      rintro e w' ⟨rfl, hx⟩
      rw [mv_same (by rw [hm]; simp)]
      exact ⟨⟨_, rfl⟩, same _ hx⟩
  · refine (S12.move_none h.st (g : Nat) (s : Nat) (.inr ⟨by omega, by omega⟩)).mono ?_
    rintro e w' ⟨rfl, rfl⟩
    have h0 : m.st.getD g 0 = 0 := by simp [Nat.not_lt.1 hg]
    rw [mv_same (by rw [h0]; simp [S12.mayB])]
    exact ⟨⟨_, rfl⟩, same _ (Ex.refl _)⟩

theorem moveS_len (L : List Nat) (g t : Nat) : (moveS L g t).length = L.length := by unfold moveS; split <;> simp
theorem wf_beg {m : MS} (W : Wf m) {g : Nat} (hg : g < m.gs.length) : Wf (begM m g) := by
  have e : ∀ i, (begM m g).at i = if g = i ∧ i < m.gs.length then { m.at g with pc := (m.at g).pc + 1 } else m.at i := fun i => at_set (m.mv g 2) g i _
  refine ⟨?_, ?_, W.s0, W.sn, W.on, W.gl, W.sl, W.k, W.cl, W.wt, ?_⟩
  · show (moveS m.st g 2).length = (m.gs.set g _).length
    rw [moveS_len, List.length_set]; exact W.st
  · intro i hi
    have hi : i < m.gs.length := by simpa [begM, MS.put, MS.mv] using hi
    rw [e]
    split
    · exact W.stk g hg
    · exact W.stk i hi
  · intro i hi
    have hi : i < m.gs.length := by simpa [begM, MS.put, MS.mv] using hi
    rw [e]
    split
    · exact W.cnt g hg
    · exact W.cnt i hi

theorem dob_beg {W6 : World} {A : Adr} {t6 : Nat → Tg} {mb : Nat} {F : Fns} {m : MS} {sv : Value} {g gb pc : Nat} (h : Md W6 { A with sv := sv } t6 mb F (m.mv g 2)) (hg : g < m.gs.length) (hgb : A.gb g = gb) (hpc : (m.at g).pc = pc) :
    Md ((W6.setCell ⟨gb, 1, none⟩ (.int .i64 ((pc + 1 : Nat) : Int))).alloc (.cells #[.int .i64 1] 3)) { A with sv := sv } t6 mb F (begM m g) := by
  subst hgb hpc
  have hg' : g < (m.mv g 2).gs.length := hg
  have hb := (h.gor g hg').box
  have tg := (h.gor g hg').tag
  refine Md.exs (h.gput (P := fun i => i = A.gb g) g { m.at g with pc := (m.at g).pc + 1 } ?_ (Chg.cell (F := fun i => i = A.gb g) W6 ⟨A.gb g, 1, none⟩ _ rfl) ?_) (Ex.made _ _)
  · rw [← gcells_pc]; exact hb.put 1 _
  · rintro i rfl; left; rw [tg]; simp

theorem dob_end {w W5 Y5 W6 W7 w8 Y8 w9 w10 : World} {A A8 : Adr} {t t6 t8 t9 : Nat → Tg} {mb : Nat} {F : Fns} {m m' : MS} {sv6 sv9 : Value} {g gb mx gx rx ix xx cb tb : Nat} {W3s : Nat} (h : Md w A t mb F m) (n : New w t) (hp : A.pb ≤ w.heap.size)
    (x5 : Ex W5 Y5) (e5 : Ex w W5) (g6 : Chg (fun i => (t i).1 ≠ 0) Y5 W6) (t6e : ∀ i, i < Y5.heap.size → t6 i = t i) (n6 : New W6 t6) (k7 : Chg (fun i => i = gb) W6 W7) (c8 : Chg (fun i => (t6 i).1 ≠ 0 ∨ i = cb ∨ i = tb) W7 w8) (t8e : ∀ i, i < W7.heap.size → t8 i = t6 i)
    (p8 : A8.pb = Adr.pb { A with sv := sv6 }) (x8 : Ex w8 Y8) (M9 : Md w9 { A8 with sv := sv9 } t9 mb F m') (N9 : New w9 t9) (T9 : ∀ i, i < Y8.heap.size → t9 i = t8 i) (G9 : Chg (fun i => (t8 i).1 ≠ 0) Y8 w9) (kr : Chg (fun i => i = rx) w9 w10)
    (hsz : w.heap.size = mx ∧ mx + 1 = gx ∧ gx + 1 = rx ∧ rx < ix ∧ ix < W3s) (h4 : ix < xx) (h5 : xx < cb) (h6 : cb < tb ∧ tb < W7.heap.size ∧ Y5.heap.size ≤ tb) (hl5 : cb < Y5.heap.size) (un : ∀ i, w.heap.size ≤ i → i < Y5.heap.size → (t6 i).1 = 0) (hgb : A.gb g = gb) (hg : g < m.gs.length) : MdR w A t mb F m' w10 := by
  have e1 := e5.size
  have e2 := x5.size
  have e3 := g6.size
  have e4 := k7.size
  have e5' := c8.size
  have e6 := x8.size
  have tgb : (t gb).1 ≠ 0 := by rw [← hgb, (h.gor g hg).tag]; simp
  have old6 : ∀ i, i < w.heap.size → t6 i = t i := fun i hi => t6e i (by omega)
  have old8 : ∀ i, i < w.heap.size → t8 i = t i := fun i hi => (t8e i (by omega)).trans (old6 i hi)
  have old9 : ∀ i, i < w.heap.size → t9 i = t i := fun i hi => (T9 i (by omega)).trans (old8 i hi)
  have r9 : (t9 rx).1 = 0 := by rw [T9 rx (by omega), t8e rx (by omega)]; exact un rx (by omega) (by omega)
  have pbe : Adr.pb { A8 with sv := sv9 } = A.pb := p8
  refine ⟨_, t9, M9.ex kr (fun i hi => .inr ?_), N9.le kr.size, old9, pbe, ?_⟩
  · have hi : i = rx := hi
    rw [hi, pbe]
    exact ⟨r9, by omega⟩
  · have k1 := ((e5.trans x5).chg (fun i => (t i).1 ≠ 0)).trans g6 (fun _ _ h => h)
    have k2 := k1.trans k7 (fun i _ hi => by have hi : i = gb := hi; rw [hi]; exact tgb)
    have k3 := k2.trans c8 (fun i hi hf => by
      rcases hf with hf | hf | hf
      · rw [old6 i hi] at hf; exact hf
      · omega
      · omega)
    have k4 := (k3.ex x8).trans G9 (fun i hi hf => by rw [old8 i hi] at hf; exact hf)
    exact k4.trans kr (fun i hi hf => by have hf : i = rx := hf; omega)

theorem effI_is {F : Fns} {m : MS} {g op a b c : Nat} (h : instAt F (m.at g) = ((op : Int), (a : Int), (b : Int), (c : Int))) : effI F m g = effM (begM m g) g op a b c := by
  unfold effI
  rw [h]
  simp

def cmV (c : Cm) : Value := .agg #[.int .i64 (c.g : Nat), .int .i64 (c.f : Nat), .int .i64 (c.pc : Nat), .int .i64 c.op, .int .i64 c.v, .bool c.bad]
/-- The program may be. -/
structure Pf (F : Fns) : Prop where
  len : F.length ≤ 16
  each : ∀ l ∈ F, l.length ≤ 64

set_option maxHeartbeats 25600000 in
theorem do_run {w : World} {A : Adr} {t : Nat → Tg} {mb : Nat} {F : Fns} {m : MS} (h : Md w A t mb F m) (n : New w t) (hp : A.pb ≤ w.heap.size) (P : Pf F) (W : Wf m) (h1k : m.gs.length ≤ 1024) {g : Nat} (hg : g < m.gs.length) (hs : m.st.getD g 0 = 1) (hf : (m.at g).f < F.length) (hpc : (m.at g).pc ≤ 1000)
    (op a b c : Nat) (hi : instAt F (m.at g) = ((op : Int), (a : Int), (b : Int), (c : Int))) (ho : op < 18) (ok : InstOk m op a b c) :
    Calls Tryz.prog 12 #[.pointer (some ⟨mb, 0, none⟩), .int .i64 (g : Nat)] w fun e w' => e = .returned (.tuple #[cmV (tellM F m g), .int .i64 0]) ∧ MdR w A t mb F (doM F m g) w' := by
  have H := Lib.hid h
  have N := Lib.hid n
  have HP : Hid (A.pb ≤ w.heap.size) := Lib.hid hp
  have HW := Lib.hid W
  have HG := Lib.hid hg
  have HO := Lib.hid ho
  have HOK := Lib.hid ok
  have HI := Lib.hid hi
  have KS := Lib.hid (fun W1 (x : Ex w W1) => state_any (h.exs x) g 1 (by unfold staI; rw [hs]; rfl))
  have KN := Lib.hid (fun W1 (x : Ex w W1) => next_ok (h.exs x) h1k hg (by unfold staI; rw [hs]; simp) (by unfold staI; rw [hs]; simp) hf P.len P.each hpc)
  rw [hi] at KN
  unfold instV at KN
  have KM := Lib.hid (fun W1 (x : Ex w W1) => move_at (h.exs x) (n.le x.size) g 2)
  rw [show ((1 : Nat) : Int) = 1 from rfl] at KS
  rw [show ((2 : Nat) : Int) = 2 from rfl] at KM
  have c2 : w.cell? ⟨mb, 2, none⟩ = some (.pointer (some ⟨A.sb, 0, none⟩)) := h.box.box.cell 2
  have c3 : w.cell? ⟨mb, 3, none⟩ = some A.gv := h.box.box.cell 3
  obtain ⟨rb, rc, hgv, rlt, rcap, rcell⟩ := h.gvat hg
  rw [hgv] at c3
  have hB := (h.gor g hg).box
  have g0 : w.cell? ⟨A.gb g, 0, none⟩ = some (.int .i64 ((m.at g).f : Nat)) := by rw [hB.cell]; rfl
  have g1 : w.cell? ⟨A.gb g, 1, none⟩ = some (.int .i64 ((m.at g).pc : Nat)) := by rw [hB.cell]; rfl
  have glt := hB.lt
  have mlt := h.box.box.lt
  obtain ⟨gl, hgl⟩ : ∃ gl, m.gs.length = gl := ⟨_, rfl⟩
  rw [hgl] at c3 rcap hg h1k
  obtain ⟨f, hff⟩ : ∃ f, (m.at g).f = f := ⟨_, rfl⟩
  obtain ⟨pc, hpp⟩ : ∃ pc, (m.at g).pc = pc := ⟨_, rfl⟩
  rw [hff] at g0
  rw [hpp] at g1 hpc
  have HFF := Lib.hid hff
  have HPP := Lib.hid hpp
  obtain ⟨gb, hgb⟩ : ∃ gb, A.gb g = gb := ⟨_, rfl⟩
  rw [hgb] at rcell g0 g1 glt
  have HGB := Lib.hid hgb
  have i1 : (g : Int) < (gl : Int) := by omega
  obtain ⟨res, hres⟩ : ∃ res, tellM F m g = res := ⟨_, rfl⟩
  obtain ⟨m', hm'⟩ : ∃ m', doM F m g = m' := ⟨_, rfl⟩
  rw [hres, hm']
  have HRES := Lib.hid hres
  have HM := Lib.hid hm'
  have hmf : ∀ (fn : Fn) (first cap : Array Value) (w : World), (Instr.makeFunc fn first cap).run Tryz.prog w = .ok (.func fn first cap) w := fun _ _ _ _ => rfl
  clear h n hp P W hs hf hi ho ok hgv hB hgl hff hpp hgb hres hm'
  go_enter Tryz.func12, Tryz.ntmps12
  go_wp2_with fail
  refine (KS.out _ (((Ex.made _ _).trans (Ex.made _ _)).trans (Ex.made _ _))).mono ?_
  rintro e w' ⟨rfl, rfl⟩
  go_wp2_with fail
  refine (KS.out _ (((Ex.made _ _).trans (Ex.made _ _)).trans (Ex.made _ _))).mono ?_
  rintro e w' ⟨rfl, rfl⟩
  go_wp2_with fail
  refine (KN.out _ (((Ex.made _ _).trans (Ex.made _ _)).trans (Ex.made _ _))).mono ?_
  rintro e w2 ⟨rfl, hx2⟩
  go_upto_region 8 with fail
  have b0 : Box (((w.alloc (.cells #[.pointer (some ⟨mb, 0, none⟩)] 29)).alloc (.cells #[.int .i64 (g : Nat)] 3)).alloc (.cells (ccells 0 0 0 0 0 false) 50)) w.heap.size #[.pointer (some ⟨mb, 0, none⟩)] 29 := ((Box.fresh w _ _).ex (Ex.made _ _)).ex (Ex.made _ _)
  have b1 : Box (((w.alloc (.cells #[.pointer (some ⟨mb, 0, none⟩)] 29)).alloc (.cells #[.int .i64 (g : Nat)] 3)).alloc (.cells (ccells 0 0 0 0 0 false) 50)) (w.heap.size + 1) #[.int .i64 (g : Nat)] 3 := by
    have := (Box.fresh (w.alloc (.cells #[.pointer (some ⟨mb, 0, none⟩)] 29)) #[.int .i64 (g : Nat)] 3).ex (Ex.made _ (.cells (ccells 0 0 0 0 0 false) 50))
    simpa using this
  have b2 : Box (((w.alloc (.cells #[.pointer (some ⟨mb, 0, none⟩)] 29)).alloc (.cells #[.int .i64 (g : Nat)] 3)).alloc (.cells (ccells 0 0 0 0 0 false) 50)) (w.heap.size + 1 + 1) (ccells 0 0 0 0 0 false) 50 := by
    have := Box.fresh ((w.alloc (.cells #[.pointer (some ⟨mb, 0, none⟩)] 29)).alloc (.cells #[.int .i64 (g : Nat)] 3)) (ccells 0 0 0 0 0 false) 50
    simpa using this
  have x0 : Ex w (((w.alloc (.cells #[.pointer (some ⟨mb, 0, none⟩)] 29)).alloc (.cells #[.int .i64 (g : Nat)] 3)).alloc (.cells (ccells 0 0 0 0 0 false) 50)) := ((Ex.made _ _).trans (Ex.made _ _)).trans (Ex.made _ _)
  have x3 := Ex.made w2 (.cells #[.int .i64 (op : Nat), .int .i64 (a : Nat), .int .i64 (b : Nat), .int .i64 (c : Nat)] 58)
  have b3 := Box.fresh w2 #[.int .i64 (op : Nat), .int .i64 (a : Nat), .int .i64 (b : Nat), .int .i64 (c : Nat)] 58
  obtain ⟨W3, hW3⟩ : ∃ W3, W3 = w2.alloc (.cells #[.int .i64 (op : Nat), .int .i64 (a : Nat), .int .i64 (b : Nat), .int .i64 (c : Nat)] 58) := ⟨_, rfl⟩
  rw [← hW3] at x3 b3 ⊢
  have E3 := Lib.hid ((x0.trans hx2).trans x3)
  have B0 := Lib.hid ((b0.ex hx2).ex x3)
  have B1 := Lib.hid ((b1.ex hx2).ex x3)
  have B2 := Lib.hid ((b2.ex hx2).ex x3)
  have B3 := Lib.hid b3
  have hxs : w.heap.size + 3 ≤ w2.heap.size := by have := hx2.size; simpa using this
  obtain ⟨mx, hmx⟩ : ∃ k, w.heap.size = k := ⟨_, rfl⟩
  obtain ⟨gx, hgx⟩ : ∃ k, mx + 1 = k := ⟨_, rfl⟩
  obtain ⟨rx, hrx⟩ : ∃ k, gx + 1 = k := ⟨_, rfl⟩
  obtain ⟨ix, hix⟩ : ∃ k, w2.heap.size = k := ⟨_, rfl⟩
  rw [hmx, hgx] at B1
  rw [hmx, hgx, hrx] at B2
  rw [hmx] at B0 hxs
  rw [hix] at B3 hxs
  rw [hmx, hgx, hrx, hix]
  have HSZ : Hid (w.heap.size = mx ∧ mx + 1 = gx ∧ gx + 1 = rx ∧ rx < ix ∧ ix < W3.heap.size) := Lib.hid ⟨hmx, hgx, hrx, by omega, b3.lt |> fun h => by rw [hix] at h; exact h⟩
  have d0 : W3.cell? ⟨mx, 0, none⟩ = some (.pointer (some ⟨mb, 0, none⟩)) := B0.out.cell 0
  have d1 : W3.cell? ⟨gx, 0, none⟩ = some (.int .i64 (g : Nat)) := B1.out.cell 0
  have d3 := (E3.out.cell (p := ⟨mb, 3, none⟩) mlt).trans c3
  have d4 := (E3.out.cell (p := ⟨rb, g, none⟩) rlt).trans rcell
  have l0 := B0.out.lt
  have l1 := B1.out.lt
  have l3 : mb < W3.heap.size := Nat.lt_of_lt_of_le mlt E3.out.size
  have l4 : rb < W3.heap.size := Nat.lt_of_lt_of_le rlt E3.out.size
  clear hx2 x0 x3 b0 b1 b2 b3 hW3 hmx hgx hrx hix hxs KS KN c2 c3 g0 g1 rcell
  go_region
  go_upto_region 9 with fail
  have x4 : Ex W3 ((W3.alloc (.cells #[.pointer (some ⟨gb, 0, none⟩)] 78)).drew) := (Ex.made _ _).trans (Ex.drawn _ 1)
  have b4 : Box ((W3.alloc (.cells #[.pointer (some ⟨gb, 0, none⟩)] 78)).drew) W3.heap.size #[.pointer (some ⟨gb, 0, none⟩)] 78 := (Box.fresh W3 _ _).ex (Ex.drawn _ 1)
  obtain ⟨W4, hW4⟩ : ∃ W4, W4 = (W3.alloc (.cells #[.pointer (some ⟨gb, 0, none⟩)] 78)).drew := ⟨_, rfl⟩
  obtain ⟨xx, hxx⟩ : ∃ k, W3.heap.size = k := ⟨_, rfl⟩
  rw [← hW4] at x4 b4 ⊢
  rw [hxx] at b4 ⊢
  have E4 := Lib.hid (E3.out.trans x4)
  have C0 := Lib.hid (B0.out.ex x4)
  have C1 := Lib.hid (B1.out.ex x4)
  have C2 := Lib.hid (B2.out.ex x4)
  have C3 := Lib.hid (B3.out.ex x4)
  have C4 := Lib.hid b4
  have HX4 : Hid (ix < xx) := Lib.hid (by have := HSZ.out; omega)
  clear x4 b4 hW4 hxx d0 d1 d3 d4 l0 l1 l3 l4
  have d1 : W4.cell? ⟨gx, 0, none⟩ = some (.int .i64 (g : Nat)) := C1.out.cell 0
  have d2 : W4.cell? ⟨xx, 0, none⟩ = some (.pointer (some ⟨gb, 0, none⟩)) := C4.out.cell 0
  have d3 : W4.cell? ⟨ix, 0, none⟩ = some (.int .i64 (op : Nat)) := C3.out.cell 0
  have hbg : Box W4 gb (gcells (m.at g)) 81 := by have := (H.out.gor g HG.out).box.ex E4.out; rw [HGB.out] at this; exact this
  have d4 : W4.cell? ⟨gb, 0, none⟩ = some (.int .i64 (f : Nat)) := by rw [hbg.cell, ← HFF.out]; rfl
  have d5 : W4.cell? ⟨gb, 1, none⟩ = some (.int .i64 (pc : Nat)) := by rw [hbg.cell, ← HPP.out]; rfl
  have CX := Lib.hid (fun W (hW : Ex W4 W) => (⟨(C1.out.ex hW).cell 0, (C4.out.ex hW).cell 0, (C3.out.ex hW).cell 0, (hW.cell (p := ⟨gb, 0, none⟩) hbg.lt).trans d4, (hW.cell (p := ⟨gb, 1, none⟩) hbg.lt).trans d5⟩ : W.cell? ⟨gx, 0, none⟩ = some (.int .i64 (g : Nat)) ∧ W.cell? ⟨xx, 0, none⟩ = some (.pointer (some ⟨gb, 0, none⟩)) ∧ W.cell? ⟨ix, 0, none⟩ = some (.int .i64 (op : Nat)) ∧ W.cell? ⟨gb, 0, none⟩ = some (.int .i64 (f : Nat)) ∧ W.cell? ⟨gb, 1, none⟩ = some (.int .i64 (pc : Nat))))
  clear d1 d2 d3 d4 d5 hbg
  have X0 := Lib.hid (ex_drw W4)
  refine wp_region_last (S := fun w' => Ex W4 w') 13 14 (by kernel_rfl) (by kernel_rfl) (by kernel_rfl) (ex_drw W4) (fun hHeld => ?_)
  generalize W4.drew = Y0 at *
  refine heldL_take (i := 0) (v := ?_) rfl (by kernel_rfl) (by kernel_rfl) (by kernel_rfl) (by kernel_rfl) (fun _ _ _ h => h) (Or.inl ⟨by rfl, ?_⟩) (by assumption) ?_
  rotate_left
  · intro w hSw; (try dsimp only at hSw); have d1 := (CX.out w hSw).1; have d2 := (CX.out w hSw).2.1; have d3 := (CX.out w hSw).2.2.1; have d4 := (CX.out w hSw).2.2.2.1; have d5 := (CX.out w hSw).2.2.2.2; go_simp; try with_reducible rfl
  try simp only [Act.put, List.setIfInBounds_toArray, List.set_cons_zero, List.set_cons_succ]
  refine heldL_take (i := 1) (v := ?_) rfl (by kernel_rfl) (by kernel_rfl) (by kernel_rfl) (by kernel_rfl) (fun _ _ _ h => h) (Or.inl ⟨by rfl, ?_⟩) (by assumption) ?_
  rotate_left
  · intro w hSw; (try dsimp only at hSw); have d1 := (CX.out w hSw).1; have d2 := (CX.out w hSw).2.1; have d3 := (CX.out w hSw).2.2.1; have d4 := (CX.out w hSw).2.2.2.1; have d5 := (CX.out w hSw).2.2.2.2; go_simp; try with_reducible rfl
  try simp only [Act.put, List.setIfInBounds_toArray, List.set_cons_zero, List.set_cons_succ]
  refine heldL_take (i := 2) (v := ?_) rfl (by kernel_rfl) (by kernel_rfl) (by kernel_rfl) (by kernel_rfl) (fun _ _ _ h => h) (Or.inl ⟨by rfl, ?_⟩) (by assumption) ?_
  rotate_left
  · intro w hSw; (try dsimp only at hSw); have d1 := (CX.out w hSw).1; have d2 := (CX.out w hSw).2.1; have d3 := (CX.out w hSw).2.2.1; have d4 := (CX.out w hSw).2.2.2.1; have d5 := (CX.out w hSw).2.2.2.2; go_simp; try with_reducible rfl
  try simp only [Act.put, List.setIfInBounds_toArray, List.set_cons_zero, List.set_cons_succ]
  refine heldL_take (i := 3) (v := ?_) rfl (by kernel_rfl) (by kernel_rfl) (by kernel_rfl) (by kernel_rfl) (fun _ _ _ h => h) (Or.inl ⟨by rfl, ?_⟩) (by assumption) ?_
  rotate_left
  · intro w hSw; (try dsimp only at hSw); have d1 := (CX.out w hSw).1; have d2 := (CX.out w hSw).2.1; have d3 := (CX.out w hSw).2.2.1; have d4 := (CX.out w hSw).2.2.2.1; have d5 := (CX.out w hSw).2.2.2.2; go_simp; try with_reducible rfl
  try simp only [Act.put, List.setIfInBounds_toArray, List.set_cons_zero, List.set_cons_succ]
  refine heldL_take (i := 4) (v := ?_) rfl (by kernel_rfl) (by kernel_rfl) (by kernel_rfl) (by kernel_rfl) (fun _ _ _ h => h) (Or.inl ⟨by rfl, ?_⟩) (by assumption) ?_
  rotate_left
  · intro w hSw; (try dsimp only at hSw); have d1 := (CX.out w hSw).1; have d2 := (CX.out w hSw).2.1; have d3 := (CX.out w hSw).2.2.1; have d4 := (CX.out w hSw).2.2.2.1; have d5 := (CX.out w hSw).2.2.2.2; go_simp; try with_reducible rfl
  try simp only [Act.put, List.setIfInBounds_toArray, List.set_cons_zero, List.set_cons_succ]
  refine heldL_take (i := 5) (v := ?_) rfl (by kernel_rfl) (by kernel_rfl) (by kernel_rfl) (by kernel_rfl) (fun _ _ _ h => h) (Or.inl ⟨by rfl, ?_⟩) (by assumption) ?_
  rotate_left
  · intro w hSw; (try dsimp only at hSw); have d1 := (CX.out w hSw).1; have d2 := (CX.out w hSw).2.1; have d3 := (CX.out w hSw).2.2.1; have d4 := (CX.out w hSw).2.2.2.1; have d5 := (CX.out w hSw).2.2.2.2; go_simp; try with_reducible rfl
  try simp only [Act.put, List.setIfInBounds_toArray, List.set_cons_zero, List.set_cons_succ]
  refine heldL_take (i := 6) (v := ?_) rfl (by kernel_rfl) (by kernel_rfl) (by kernel_rfl) (by kernel_rfl) (fun _ _ _ h => h) (Or.inl ⟨by rfl, ?_⟩) (by assumption) ?_
  rotate_left
  · intro w hSw; (try dsimp only at hSw); have d1 := (CX.out w hSw).1; have d2 := (CX.out w hSw).2.1; have d3 := (CX.out w hSw).2.2.1; have d4 := (CX.out w hSw).2.2.2.1; have d5 := (CX.out w hSw).2.2.2.2; go_simp; try with_reducible rfl
  try simp only [Act.put, List.setIfInBounds_toArray, List.set_cons_zero, List.set_cons_succ]
  refine heldL_take (i := 7) (v := ?_) rfl (by kernel_rfl) (by kernel_rfl) (by kernel_rfl) (by kernel_rfl) (fun _ _ _ h => h) (Or.inl ⟨by rfl, ?_⟩) (by assumption) ?_
  rotate_left
  · intro w hSw; (try dsimp only at hSw); have d1 := (CX.out w hSw).1; have d2 := (CX.out w hSw).2.1; have d3 := (CX.out w hSw).2.2.1; have d4 := (CX.out w hSw).2.2.2.1; have d5 := (CX.out w hSw).2.2.2.2; go_simp; try with_reducible rfl
  try simp only [Act.put, List.setIfInBounds_toArray, List.set_cons_zero, List.set_cons_succ]
  refine heldL_take (i := 8) (v := ?_) rfl (by kernel_rfl) (by kernel_rfl) (by kernel_rfl) (by kernel_rfl) (fun _ _ _ h => h) (Or.inl ⟨by rfl, ?_⟩) (by assumption) ?_
  rotate_left
  · intro w hSw; (try dsimp only at hSw); have d1 := (CX.out w hSw).1; have d2 := (CX.out w hSw).2.1; have d3 := (CX.out w hSw).2.2.1; have d4 := (CX.out w hSw).2.2.2.1; have d5 := (CX.out w hSw).2.2.2.2; go_simp; try with_reducible rfl
  try simp only [Act.put, List.setIfInBounds_toArray, List.set_cons_zero, List.set_cons_succ]
  refine heldL_take (i := 9) (v := ?_) rfl (by kernel_rfl) (by kernel_rfl) (by kernel_rfl) (by kernel_rfl) (fun _ _ _ h => h) (Or.inl ⟨by rfl, ?_⟩) (by assumption) ?_
  rotate_left
  · intro w hSw; (try dsimp only at hSw); have d1 := (CX.out w hSw).1; have d2 := (CX.out w hSw).2.1; have d3 := (CX.out w hSw).2.2.1; have d4 := (CX.out w hSw).2.2.2.1; have d5 := (CX.out w hSw).2.2.2.2; go_simp; try with_reducible rfl
  try simp only [Act.put, List.setIfInBounds_toArray, List.set_cons_zero, List.set_cons_succ]
  refine heldL_take (i := 10) (v := ?_) rfl (by kernel_rfl) (by kernel_rfl) (by kernel_rfl) (by kernel_rfl) (fun _ _ _ h => h) (Or.inl ⟨by rfl, ?_⟩) (by assumption) ?_
  rotate_left
  · intro w hSw; (try dsimp only at hSw); have d1 := (CX.out w hSw).1; have d2 := (CX.out w hSw).2.1; have d3 := (CX.out w hSw).2.2.1; have d4 := (CX.out w hSw).2.2.2.1; have d5 := (CX.out w hSw).2.2.2.2; go_simp; try with_reducible rfl
  try simp only [Act.put, List.setIfInBounds_toArray, List.set_cons_zero, List.set_cons_succ]
  refine heldL_take (i := 11) (v := ?_) rfl (by kernel_rfl) (by kernel_rfl) (by kernel_rfl) (by kernel_rfl) (fun _ _ _ h => h) (Or.inl ⟨by rfl, ?_⟩) (by assumption) ?_
  rotate_left
  · intro w hSw; (try dsimp only at hSw); have d1 := (CX.out w hSw).1; have d2 := (CX.out w hSw).2.1; have d3 := (CX.out w hSw).2.2.1; have d4 := (CX.out w hSw).2.2.2.1; have d5 := (CX.out w hSw).2.2.2.2; go_simp; try with_reducible rfl
  try simp only [Act.put, List.setIfInBounds_toArray, List.set_cons_zero, List.set_cons_succ]
  refine heldL_ready (rs := [12]) (by kernel_rfl) (by simp) ?_
  refine AllL.cons rfl (fun K hK => ?_) AllL.nil
  go_simp
  have hHeld1 := Ex.trans hHeld (Ex.made Y0 (.cells #[.int .i64 0, .int .i64 0, .int .i64 0, .int .i64 0, .int .i64 0, .bool false] 50))
  refine hK.out _ _ (fun _ => hHeld1) (fun _ => ?_)
  clear hK K
  try simp only [Act.put, List.setIfInBounds_toArray, List.set_cons_zero, List.set_cons_succ]
  refine heldL_store_cm (g := (g : Nat)) (f := (f : Nat)) (pc := (pc : Nat)) (op := (op : Nat)) (v := 0) (bad := false) 9 51 (by kernel_rfl) (by kernel_rfl) (by kernel_rfl) (by rfl) (by rfl) (Box.fresh Y0 #[.int .i64 0, .int .i64 0, .int .i64 0, .int .i64 0, .int .i64 0, .bool false] 50 : Box _ _ (ccells 0 0 0 0 0 false) _) ?_
  have b5 := put6_box (Box.fresh Y0 #[.int .i64 0, .int .i64 0, .int .i64 0, .int .i64 0, .int .i64 0, .bool false] 50 : Box _ _ (ccells 0 0 0 0 0 false) _) (g : Nat) (f : Nat) (pc : Nat) (op : Nat) 0 false
  have x5 : Ex W4 (put6 (Y0.alloc (.cells #[.int .i64 0, .int .i64 0, .int .i64 0, .int .i64 0, .int .i64 0, .bool false] 50)) Y0.heap.size (g : Nat) (f : Nat) (pc : Nat) (op : Nat) 0 false) := Below.trans (X0.out.trans (Ex.made Y0 _)) ((put6_chg _ _ _ _ _ _ _ _).below ((X0.out.trans (Ex.made Y0 _)).size) (fun i hi => by have := X0.out.size; omega))
  obtain ⟨W5, hW5⟩ : ∃ W5, W5 = put6 (Y0.alloc (.cells #[.int .i64 0, .int .i64 0, .int .i64 0, .int .i64 0, .int .i64 0, .bool false] 50)) Y0.heap.size (g : Nat) (f : Nat) (pc : Nat) (op : Nat) 0 false := ⟨_, rfl⟩
  obtain ⟨cb, hcb⟩ : ∃ k, Y0.heap.size = k := ⟨_, rfl⟩
  have HX5 : Hid (xx < cb) := Lib.hid (by have h1 := C4.out.lt; have h2 := X0.out.size; omega)
  rw [← hW5] at x5 b5 ⊢
  rw [hcb] at b5 ⊢
  have E5 := Lib.hid (E4.out.trans x5)
  have D0 := Lib.hid (C0.out.ex x5)
  have D1 := Lib.hid (C1.out.ex x5)
  have D2 := Lib.hid (C2.out.ex x5)
  have D3 := Lib.hid (C3.out.ex x5)
  have D4 := Lib.hid (C4.out.ex x5)
  have D5 := Lib.hid b5
  clear x5 b5 hW5 hcb C0 C1 C2 C3 C4 B0 B1 B2 B3 CX X0 hHeld1 hHeld
  have d0 : W5.cell? ⟨mx, 0, none⟩ = some (.pointer (some ⟨mb, 0, none⟩)) := D0.out.cell 0
  have d1 : W5.cell? ⟨gx, 0, none⟩ = some (.int .i64 (g : Nat)) := D1.out.cell 0
  have d2 : W5.cell? ⟨mb, 2, none⟩ = some (.pointer (some ⟨A.sb, 0, none⟩)) := (H.out.exs E5.out).box.box.cell 2
  go_upto_region 10 with fail
  have CY := Lib.hid (fun W (hW : Ex W5 W) => (⟨(D0.out.ex hW).cell 0, (D1.out.ex hW).cell 0, ((H.out.exs E5.out).exs hW).box.box.cell 2⟩ : W.cell? ⟨mx, 0, none⟩ = some (.pointer (some ⟨mb, 0, none⟩)) ∧ W.cell? ⟨gx, 0, none⟩ = some (.int .i64 (g : Nat)) ∧ W.cell? ⟨mb, 2, none⟩ = some (.pointer (some ⟨A.sb, 0, none⟩))))
  clear d0 d1 d2
  have X5 := Lib.hid (ex_drw W5)
  refine wp_region_last (S := fun w' => Ex W5 w') 5 6 (by kernel_rfl) (by kernel_rfl) (by kernel_rfl) (ex_drw W5) (fun hHeld => ?_)
  generalize W5.drew = Y5 at *
  refine heldL_take (i := 0) (v := ?_) rfl (by kernel_rfl) (by kernel_rfl) (by kernel_rfl) (by kernel_rfl) (fun _ _ _ h => h) (Or.inl ⟨by rfl, ?_⟩) (by assumption) ?_
  rotate_left
  · intro w hSw; (try dsimp only at hSw); have d1 := (CY.out w hSw).1; have d2 := (CY.out w hSw).2.1; have d3 := (CY.out w hSw).2.2; go_simp; try with_reducible rfl
  try simp only [Act.put, List.setIfInBounds_toArray, List.set_cons_zero, List.set_cons_succ]
  refine heldL_take (i := 1) (v := ?_) rfl (by kernel_rfl) (by kernel_rfl) (by kernel_rfl) (by kernel_rfl) (fun _ _ _ h => h) (Or.inl ⟨by rfl, ?_⟩) (by assumption) ?_
  rotate_left
  · intro w hSw; (try dsimp only at hSw); have d1 := (CY.out w hSw).1; have d2 := (CY.out w hSw).2.1; have d3 := (CY.out w hSw).2.2; go_simp; try with_reducible rfl
  try simp only [Act.put, List.setIfInBounds_toArray, List.set_cons_zero, List.set_cons_succ]
  refine heldL_take (i := 2) (v := ?_) rfl (by kernel_rfl) (by kernel_rfl) (by kernel_rfl) (by kernel_rfl) (fun _ _ _ h => h) (Or.inl ⟨by rfl, ?_⟩) (by assumption) ?_
  rotate_left
  · intro w hSw; (try dsimp only at hSw); have d1 := (CY.out w hSw).1; have d2 := (CY.out w hSw).2.1; have d3 := (CY.out w hSw).2.2; go_simp; try with_reducible rfl
  try simp only [Act.put, List.setIfInBounds_toArray, List.set_cons_zero, List.set_cons_succ]
  refine heldL_take (i := 3) (v := ?_) rfl (by kernel_rfl) (by kernel_rfl) (by kernel_rfl) (by kernel_rfl) (fun _ _ _ h => h) (Or.inl ⟨by rfl, ?_⟩) (by assumption) ?_
  rotate_left
  · intro w hSw; (try dsimp only at hSw); have d1 := (CY.out w hSw).1; have d2 := (CY.out w hSw).2.1; have d3 := (CY.out w hSw).2.2; go_simp; try with_reducible rfl
  try simp only [Act.put, List.setIfInBounds_toArray, List.set_cons_zero, List.set_cons_succ]
  refine heldL_take (i := 4) (v := ?_) rfl (by kernel_rfl) (by kernel_rfl) (by kernel_rfl) (by kernel_rfl) (fun _ _ _ h => h) (Or.inl ⟨by rfl, ?_⟩) (by assumption) ?_
  rotate_left
  · intro w hSw; (try dsimp only at hSw); have d1 := (CY.out w hSw).1; have d2 := (CY.out w hSw).2.1; have d3 := (CY.out w hSw).2.2; go_simp; try with_reducible rfl
  try simp only [Act.put, List.setIfInBounds_toArray, List.set_cons_zero, List.set_cons_succ]
  refine heldL_ready (rs := [5]) (by kernel_rfl) (by simp) ?_
  refine AllL.cons rfl (fun K hK => ?_) AllL.nil
  go_simp
  go_at_call 26
  refine (KM.out _ (E5.out.trans X5.out)).mono ?_
  rintro e W6 ⟨⟨r6, rfl⟩, hm6⟩
  have HM6 := Lib.hid hm6
  clear hm6
  refine hK.out _ _ (fun h => (h rfl).elim) (fun _ => ?_)
  clear hK K
  try simp only [Act.put, List.setIfInBounds_toArray, List.set_cons_zero, List.set_cons_succ]
  refine heldL_done (by kernel_rfl) ?_ _
  obtain ⟨sv6, t6, M6, N6, T6, G6, -⟩ := HM6.out
  have hun : ∀ i, w.heap.size ≤ i → i < Y5.heap.size → (t6 i).1 = 0 := fun i h1 h2 => by rw [T6 i h2]; exact N.out i h1
  have hsz := HSZ.out
  have h4 := HX4.out
  have h5 := HX5.out
  have l5 : cb < Y5.heap.size := Nat.lt_of_lt_of_le D5.out.lt X5.out.size
  have nt : ∀ i, w.heap.size ≤ i → ¬ (t i).1 ≠ 0 := fun i h1 h2 => h2 (N.out i h1)
  have F0 := Lib.hid ((D0.out.ex X5.out).chg G6 (nt mx (by omega)))
  have F1 := Lib.hid ((D1.out.ex X5.out).chg G6 (nt gx (by omega)))
  have F2 := Lib.hid ((D2.out.ex X5.out).chg G6 (nt rx (by omega)))
  have F3 := Lib.hid ((D3.out.ex X5.out).chg G6 (nt ix (by omega)))
  have F4 := Lib.hid ((D4.out.ex X5.out).chg G6 (nt xx (by omega)))
  have F5 := Lib.hid ((D5.out.ex X5.out).chg G6 (nt cb (by omega)))
  have bg : Box W6 gb (gcells (m.at g)) 81 := by have := (M6.gor g HG.out).box; rw [show Adr.gb { A with sv := sv6 } = A.gb from rfl, HGB.out] at this; exact this
  have g1 : W6.cell? ⟨gb, 1, none⟩ = some (.int .i64 (pc : Nat)) := by rw [bg.cell, ← HPP.out]; rfl
  have f1 := bg.soft 1
  have x1 : W6.cell? ⟨xx, 0, none⟩ = some (.pointer (some ⟨gb, 0, none⟩)) := F4.out.cell 0
  have e1 : IntKind.i64.wrap ((pc : Int) + 1) = (pc : Int) + 1 := by rw [IntKind.wrap_i64]; omega
  have xg : xx ≠ gb := by have := Nat.lt_of_lt_of_le glt (Nat.le_refl _); omega
  have HBG := Lib.hid bg
  have HM7 := Lib.hid M6
  have HN6 := Lib.hid N6
  have HT6 := Lib.hid T6
  have HG6 := Lib.hid G6
  have HUN := Lib.hid hun
  clear M6 N6 T6 G6 hun nt bg D0 D1 D2 D3 D4 D5 CY
  go_wp2_with fail
  have pcs : ((pc : Int) + 1) = ((pc + 1 : Nat) : Int) := rfl
  rw [pcs]
  have BG7 := dob_beg HM7.out HG.out HGB.out HPP.out
  have F7 := fun k (cs : Array Value) (ty : TypeId) (hb : Box W6 k cs ty) (hk : k ≠ gb) => (Box.ex (Box.put_other hb hk 1 (.int .i64 ((pc + 1 : Nat) : Int))) (Ex.made (W6.setCell ⟨gb, 1, none⟩ (.int .i64 ((pc + 1 : Nat) : Int))) (.cells #[.int .i64 1] 3)))
  have hsz := HSZ.out
  have h4 := HX4.out
  have h5 := HX5.out
  have s6 : Y5.heap.size ≤ W6.heap.size := HG6.out.size
  have s7 : (W6.setCell ⟨gb, 1, none⟩ (.int .i64 ((pc + 1 : Nat) : Int))).heap.size = W6.heap.size := by simp [World.setCell]
  have BT : Box ((W6.setCell ⟨gb, 1, none⟩ (.int .i64 ((pc + 1 : Nat) : Int))).alloc (.cells #[.int .i64 1] 3)) W6.heap.size #[.int .i64 1] 3 := by have := Box.fresh (W6.setCell ⟨gb, 1, none⟩ (.int .i64 ((pc + 1 : Nat) : Int))) #[.int .i64 1] 3; rw [s7] at this; exact this
  have G0 := F7 mx _ _ F0.out (by omega)
  have G1 := F7 gx _ _ F1.out (by omega)
  have G2 := F7 rx _ _ F2.out (by omega)
  have G3 := F7 ix _ _ F3.out (by omega)
  have G4 := F7 xx _ _ F4.out (by omega)
  have G5 := F7 cb _ _ F5.out (by omega)
  have N7 : New ((W6.setCell ⟨gb, 1, none⟩ (.int .i64 ((pc + 1 : Nat) : Int))).alloc (.cells #[.int .i64 1] 3)) t6 := HN6.out.le (by simp [World.setCell])
  have x7 : W6.heap.size < ((W6.setCell ⟨gb, 1, none⟩ (.int .i64 ((pc + 1 : Nat) : Int))).alloc (.cells #[.int .i64 1] 3)).heap.size := by simp [World.setCell]
  have k7 : Chg (fun i => i = gb) W6 ((W6.setCell ⟨gb, 1, none⟩ (.int .i64 ((pc + 1 : Nat) : Int))).alloc (.cells #[.int .i64 1] 3)) := (Chg.cell (F := fun i => i = gb) W6 ⟨gb, 1, none⟩ _ rfl).ex (Ex.made _ _)
  obtain ⟨W7, hW7⟩ : ∃ W7, W7 = (W6.setCell ⟨gb, 1, none⟩ (.int .i64 ((pc + 1 : Nat) : Int))).alloc (.cells #[.int .i64 1] 3) := ⟨_, rfl⟩
  obtain ⟨tb, htb⟩ : ∃ k, W6.heap.size = k := ⟨_, rfl⟩
  rw [← hW7] at BG7 BT G0 G1 G2 G3 G4 G5 N7 x7 k7 ⊢
  have ht0 : (t6 W6.heap.size).1 = 0 := HN6.out _ (Nat.le_refl _)
  rw [htb] at BT x7 ht0 s6 ⊢
  have HB7 := Lib.hid BG7
  have un := HUN.out
  have KD := Lib.hid (do1_m (cc := ⟨(g : Nat), (f : Nat), (pc : Nat), (op : Nat)⟩) BG7 N7 (⟨G5, un cb (by omega) l5, by have := HP.out; show A.pb ≤ cb; omega⟩ : Cb W7 { A with sv := sv6 } t6 cb ⟨(g : Nat), (f : Nat), (pc : Nat), (op : Nat)⟩ 0) (g := g) (by simpa [begM, MS.put, MS.mv] using HG.out) (wf_beg HW.out HG.out) op a b c HO.out HOK.out BT ht0 (by have := HP.out; show A.pb ≤ tb; omega) (by omega) ⟨G0, G3, G1, by rw [show Adr.gb { A with sv := sv6 } = A.gb from rfl, HGB.out]; exact G4⟩ ⟨by omega, by omega, by omega, by omega⟩ ⟨un mx (by omega) (by omega), un ix (by omega) (by omega), un gx (by omega) (by omega), un xx (by omega) (by omega)⟩)
  have HN7 := Lib.hid N7
  have HK7 := Lib.hid k7
  have Q2 := Lib.hid G2
  have Q0 := Lib.hid G0
  have Q1 := Lib.hid G1
  have HTB : Hid (cb < tb ∧ tb < W7.heap.size ∧ Y5.heap.size ≤ tb) := Lib.hid ⟨by omega, x7, s6⟩
  have HL5 := Lib.hid l5
  clear BG7 BT G0 G1 G2 G3 G4 G5 N7 x7 k7 hW7 htb un F7 F0 F1 F2 F3 F4 F5 g1 f1 x1 e1 s6 s7 pcs hsz h4 h5 ht0 xg l5
  refine KD.out.mono ?_
  rintro e w8 ⟨rfl, A8, t8, M8, N8, T8, P8, bc8, bt8, c8⟩
  obtain ⟨rr, hrr⟩ : ∃ rr, effM (begM m g) g op a b c = rr := ⟨_, rfl⟩
  rw [hrr] at M8 bc8 bt8
  have HRR := Lib.hid hrr
  clear hrr KD
  obtain ⟨to, hto⟩ : ∃ k, rr.2.2.getD 5 = k := ⟨_, rfl⟩
  obtain ⟨vv, hvv⟩ : ∃ k, (if rr.2.2.isNone then 0 else rr.2.1) = k := ⟨_, rfl⟩
  obtain ⟨bad, hbad⟩ : ∃ k, rr.2.2.isNone = k := ⟨_, rfl⟩
  rw [hto] at bt8
  rw [hvv, hbad] at bc8
  have HTO := Lib.hid hto
  have HVV := Lib.hid hvv
  have HBAD := Lib.hid hbad
  clear hto hvv hbad
  have un := HUN.out
  have hsz := HSZ.out
  have h4 := HX4.out
  have h5 := HX5.out
  have h6 := HTB.out
  have hl5 := HL5.out
  have n8 : ∀ i, w.heap.size ≤ i → i < Y5.heap.size → i ≠ cb → ¬ ((t6 i).1 ≠ 0 ∨ i = cb ∨ i = tb) := fun i k1 k2 k3 k4 => by rcases k4 with k4 | k4 | k4; exact k4 (un i k1 k2); exact k3 k4; omega
  have R0 := Lib.hid (Q0.out.chg c8 (n8 mx (by omega) (by omega) (by omega)))
  have R1 := Lib.hid (Q1.out.chg c8 (n8 gx (by omega) (by omega) (by omega)))
  have R2 := Lib.hid (Q2.out.chg c8 (n8 rx (by omega) (by omega) (by omega)))
  have BC := Lib.hid bc8
  have BT := Lib.hid bt8
  have KM2 := Lib.hid (fun W1 (x : Ex w8 W1) => move_at (M8.exs x) (N8.le x.size) g to)
  have CZ := Lib.hid (fun W (hW : Ex w8 W) => (⟨(R0.out.ex hW).cell 0, (R1.out.ex hW).cell 0, (bt8.ex hW).cell 0, (M8.exs hW).box.box.cell 2⟩ : W.cell? ⟨mx, 0, none⟩ = some (.pointer (some ⟨mb, 0, none⟩)) ∧ W.cell? ⟨gx, 0, none⟩ = some (.int .i64 (g : Nat)) ∧ W.cell? ⟨tb, 0, none⟩ = some (.int .i64 (to : Nat)) ∧ W.cell? ⟨mb, 2, none⟩ = some (.pointer (some ⟨A8.sb, 0, none⟩))))
  have HM8 := Lib.hid M8
  have HT8 := Lib.hid T8
  have HP8 := Lib.hid P8
  have HC8 := Lib.hid c8
  clear M8 N8 T8 P8 bc8 bt8 c8 un n8 hsz h4 h5 h6 hl5 Q0 Q1 Q2
  go_upto_region 14 with fail
  have X8 := Lib.hid (ex_drw w8)
  refine wp_region_last (S := fun w' => Ex w8 w') 6 7 (by kernel_rfl) (by kernel_rfl) (by kernel_rfl) (ex_drw w8) (fun hHeld => ?_)
  generalize w8.drew = Y8 at *
  refine heldL_take (i := 0) (v := ?_) rfl (by kernel_rfl) (by kernel_rfl) (by kernel_rfl) (by kernel_rfl) (fun _ _ _ h => h) (Or.inl ⟨by rfl, ?_⟩) (by assumption) ?_
  rotate_left
  · intro w hSw; (try dsimp only at hSw); have d1 := (CZ.out w hSw).1; have d2 := (CZ.out w hSw).2.1; have d3 := (CZ.out w hSw).2.2.1; have d4 := (CZ.out w hSw).2.2.2; go_simp; try with_reducible rfl
  try simp only [Act.put, List.setIfInBounds_toArray, List.set_cons_zero, List.set_cons_succ]
  refine heldL_take (i := 1) (v := ?_) rfl (by kernel_rfl) (by kernel_rfl) (by kernel_rfl) (by kernel_rfl) (fun _ _ _ h => h) (Or.inl ⟨by rfl, ?_⟩) (by assumption) ?_
  rotate_left
  · intro w hSw; (try dsimp only at hSw); have d1 := (CZ.out w hSw).1; have d2 := (CZ.out w hSw).2.1; have d3 := (CZ.out w hSw).2.2.1; have d4 := (CZ.out w hSw).2.2.2; go_simp; try with_reducible rfl
  try simp only [Act.put, List.setIfInBounds_toArray, List.set_cons_zero, List.set_cons_succ]
  refine heldL_take (i := 2) (v := ?_) rfl (by kernel_rfl) (by kernel_rfl) (by kernel_rfl) (by kernel_rfl) (fun _ _ _ h => h) (Or.inl ⟨by rfl, ?_⟩) (by assumption) ?_
  rotate_left
  · intro w hSw; (try dsimp only at hSw); have d1 := (CZ.out w hSw).1; have d2 := (CZ.out w hSw).2.1; have d3 := (CZ.out w hSw).2.2.1; have d4 := (CZ.out w hSw).2.2.2; go_simp; try with_reducible rfl
  try simp only [Act.put, List.setIfInBounds_toArray, List.set_cons_zero, List.set_cons_succ]
  refine heldL_take (i := 3) (v := ?_) rfl (by kernel_rfl) (by kernel_rfl) (by kernel_rfl) (by kernel_rfl) (fun _ _ _ h => h) (Or.inl ⟨by rfl, ?_⟩) (by assumption) ?_
  rotate_left
  · intro w hSw; (try dsimp only at hSw); have d1 := (CZ.out w hSw).1; have d2 := (CZ.out w hSw).2.1; have d3 := (CZ.out w hSw).2.2.1; have d4 := (CZ.out w hSw).2.2.2; go_simp; try with_reducible rfl
  try simp only [Act.put, List.setIfInBounds_toArray, List.set_cons_zero, List.set_cons_succ]
  refine heldL_take (i := 4) (v := ?_) rfl (by kernel_rfl) (by kernel_rfl) (by kernel_rfl) (by kernel_rfl) (fun _ _ _ h => h) (Or.inl ⟨by rfl, ?_⟩) (by assumption) ?_
  rotate_left
  · intro w hSw; (try dsimp only at hSw); have d1 := (CZ.out w hSw).1; have d2 := (CZ.out w hSw).2.1; have d3 := (CZ.out w hSw).2.2.1; have d4 := (CZ.out w hSw).2.2.2; go_simp; try with_reducible rfl
  try simp only [Act.put, List.setIfInBounds_toArray, List.set_cons_zero, List.set_cons_succ]
  refine heldL_take (i := 5) (v := ?_) rfl (by kernel_rfl) (by kernel_rfl) (by kernel_rfl) (by kernel_rfl) (fun _ _ _ h => h) (Or.inl ⟨by rfl, ?_⟩) (by assumption) ?_
  rotate_left
  · intro w hSw; (try dsimp only at hSw); have d1 := (CZ.out w hSw).1; have d2 := (CZ.out w hSw).2.1; have d3 := (CZ.out w hSw).2.2.1; have d4 := (CZ.out w hSw).2.2.2; go_simp; try with_reducible rfl
  try simp only [Act.put, List.setIfInBounds_toArray, List.set_cons_zero, List.set_cons_succ]
  refine heldL_ready (rs := [6]) (by kernel_rfl) (by simp) ?_
  refine AllL.cons rfl (fun K hK => ?_) AllL.nil
  go_simp
  go_at_call 26
  refine (KM2.out _ X8.out).mono ?_
  rintro e w9 ⟨⟨r9, rfl⟩, hm9⟩
  have HM9 := Lib.hid hm9
  clear hm9
  refine hK.out _ _ (fun h => (h rfl).elim) (fun _ => ?_)
  clear hK K
  try simp only [Act.put, List.setIfInBounds_toArray, List.set_cons_zero, List.set_cons_succ]
  refine heldL_done (by kernel_rfl) ?_ _
  obtain ⟨sv9, t9, M9, N9, T9, G9, O9⟩ := HM9.out
  have un := HUN.out
  have hsz := HSZ.out
  have h4 := HX4.out
  have h5 := HX5.out
  have h6 := HTB.out
  have hl5 := HL5.out
  have u8 : ∀ i, w.heap.size ≤ i → i < Y5.heap.size → ¬ (t8 i).1 ≠ 0 := fun i k1 k2 k3 => k3 (by rw [HT8.out i (by omega)]; exact un i k1 k2)
  have bc9 := (BC.out.ex X8.out).chg G9 (u8 cb (by omega) (by omega))
  have br9 := (R2.out.ex X8.out).chg G9 (u8 rx (by omega) (by omega))
  have q0 : w9.cell? ⟨cb, 0, none⟩ = some (.int .i64 (g : Nat)) := bc9.cell 0
  have q1 : w9.cell? ⟨cb, 1, none⟩ = some (.int .i64 (f : Nat)) := bc9.cell 1
  have q2 : w9.cell? ⟨cb, 2, none⟩ = some (.int .i64 (pc : Nat)) := bc9.cell 2
  have q3 : w9.cell? ⟨cb, 3, none⟩ = some (.int .i64 (op : Nat)) := bc9.cell 3
  have q4 : w9.cell? ⟨cb, 4, none⟩ = some (.int .i64 vv) := bc9.cell 4
  have q5 : w9.cell? ⟨cb, 5, none⟩ = some (.bool bad) := bc9.cell 5
  have p0 : w9.cell? ⟨rx, 0, none⟩ = some (.int .i64 0) := br9.cell 0
  have p1 : w9.cell? ⟨rx, 1, none⟩ = some (.int .i64 0) := br9.cell 1
  have p2 : w9.cell? ⟨rx, 2, none⟩ = some (.int .i64 0) := br9.cell 2
  have p3 : w9.cell? ⟨rx, 3, none⟩ = some (.int .i64 0) := br9.cell 3
  have p4 : w9.cell? ⟨rx, 4, none⟩ = some (.int .i64 0) := br9.cell 4
  have p5 : w9.cell? ⟨rx, 5, none⟩ = some (.bool false) := br9.cell 5
  have s0 := br9.soft 0
  have s1 := br9.soft 1
  have s2 := br9.soft 2
  have s3 := br9.soft 3
  have s4 := br9.soft 4
  have s5 := br9.soft 5
  have hne : rx ≠ cb := by omega
  have BR := Lib.hid (put6_box br9 (g : Nat) (f : Nat) (pc : Nat) (op : Nat) vv bad)
  have KR := Lib.hid (put6_chg w9 rx (g : Nat) (f : Nat) (pc : Nat) (op : Nat) vv bad)
  have HFIN := Lib.hid (dob_end H.out N.out HP.out X5.out E5.out HG6.out HT6.out HN6.out HK7.out HC8.out HT8.out HP8.out X8.out M9 N9 T9 G9 KR.out HSZ.out h4 h5 h6 hl5 un HGB.out HG.out)
  clear un hsz h4 h5 h6 hl5 u8 bc9 br9 M9 N9 T9 G9 O9
  go_wp2_with fail
  obtain ⟨Z, hZ⟩ : ∃ Z, Z = put6 w9 rx (g : Nat) (f : Nat) (pc : Nat) (op : Nat) vv bad := ⟨_, rfl⟩
  have hZ2 := hZ
  unfold put6 at hZ2
  rw [← hZ2]
  rw [← hZ] at BR HFIN
  clear hZ hZ2 KR q0 q1 q2 q3 q4 q5 p0 p1 p2 p3 p4 p5 s0 s1 s2 s3 s4 s5 HM9 CZ KM2
  have z0 : Z.cell? ⟨rx, 0, none⟩ = some (.int .i64 (g : Nat)) := BR.out.cell 0
  have z1 : Z.cell? ⟨rx, 1, none⟩ = some (.int .i64 (f : Nat)) := BR.out.cell 1
  have z2 : Z.cell? ⟨rx, 2, none⟩ = some (.int .i64 (pc : Nat)) := BR.out.cell 2
  have z3 : Z.cell? ⟨rx, 3, none⟩ = some (.int .i64 (op : Nat)) := BR.out.cell 3
  have z4 : Z.cell? ⟨rx, 4, none⟩ = some (.int .i64 vv) := BR.out.cell 4
  have z5 : Z.cell? ⟨rx, 5, none⟩ = some (.bool bad) := BR.out.cell 5
  have hef := effI_is HI.out
  rw [HRR.out] at hef
  refine bodyPost_ret (v := .tuple #[.agg #[.int .i64 (g : Nat), .int .i64 (f : Nat), .int .i64 (pc : Nat), .int .i64 (op : Nat), .int .i64 vv, .bool bad], .int .i64 0]) (by clear hef; simp [results, Tryz.results12, go_sem, z0, z1, z2, z3, z4, z5]) rfl ⟨?_, ?_⟩
  · rw [← HRES.out]
    unfold cmV tellM
    rw [hef, HI.out, HFF.out, HPP.out, HVV.out, HBAD.out]
  · rw [← HM.out]
    unfold doM
    rw [hef, HTO.out]
    exact HFIN.out

end Go.Proofs.YtmlobpapjfkbmaaGreat

/- A model is read: Globals, Slots, Stack, Stuck; a model that is none. -/
namespace Go.Proofs.YtmlobpapjfkbmaaGreat
open Go.RowKit
set_option linter.unusedVariables false
set_option maxRecDepth 20000
set_option linter.unusedSimpArgs false

/-- A clone: a row of numbers of the caller's own. -/
def RowOut (w : World) (l : List Nat) (e : Ending) (w' : World) : Prop := ∃ u, e = .returned u ∧ w'.ownsRow w.heap.size 3 1 u l.length (S12.ints l) ∧ Ex w w'

theorem globals_any {w : World} {A : Adr} {t : Nat → Tg} {mb : Nat} {F : Fns} {m : MS} (h : Md w A t mb F m) (hn : m.globals.length ≤ 1000) :
    Calls Tryz.prog 39 #[.pointer (some ⟨mb, 0, none⟩)] w (RowOut w m.globals) := by
  have c4 : w.cell? ⟨mb, 4, none⟩ = some A.Gv := h.box.box.cell 4
  have K := Lib.hid (clone_any (Rn.of h.glob.row) (by omega))
  obtain ⟨Gv, hG⟩ : ∃ v, A.Gv = v := ⟨_, rfl⟩
  rw [hG] at c4 K
  clear h hG
  go_enter Tryz.func39, Tryz.ntmps39
  go_wp2_with fail
  refine K.out.mono ?_
  rintro e w' ⟨u, rfl, h1, h2⟩
  have H1 := Lib.hid h1
  have H2 := Lib.hid h2
  clear h1 h2
  go_wp2_with fail
  go_ret
  exact ⟨_, rfl, H1.out, H2.out⟩

set_option maxHeartbeats 1600000 in
theorem slots_in {w : World} {A : Adr} {t : Nat → Tg} {mb : Nat} {F : Fns} {m : MS} (h : Md w A t mb F m) (hn : m.slots.length ≤ 100000) (hon : ∀ i, (m.slots.getD i []).length ≤ 1000) (id : Nat) (h1 : 1 ≤ id) (hid : id < m.slots.length) :
    Calls Tryz.prog 41 #[.pointer (some ⟨mb, 0, none⟩), .int .i64 (id : Nat)] w (RowOut w (m.slots.getD id [])) := by
  have c5 : w.cell? ⟨mb, 5, none⟩ = some A.lv := h.box.box.cell 5
  obtain ⟨lb, cap, hlv, llt, lcap, lc⟩ := h.lvat hid
  rw [hlv] at c5
  have K := Lib.hid (clone_any (Rn.of (h.slot id hid).row) (by have := hon id; exact Nat.le_trans this (by omega)))
  have e : m.obj id = m.slots.getD id [] := rfl
  rw [e] at K
  obtain ⟨v, hv⟩ : ∃ v, A.ov id = v := ⟨_, rfl⟩
  rw [hv] at lc K
  obtain ⟨l, hl⟩ : ∃ l, m.slots.getD id [] = l := ⟨_, rfl⟩
  rw [hl] at K ⊢
  obtain ⟨sl, hsl⟩ : ∃ k, m.slots.length = k := ⟨_, rfl⟩
  rw [hsl] at c5 lcap hid hn
  have i1 : (id : Int) < (sl : Int) := by omega
  have i0 : ¬ (id : Int) < 1 := by omega
  have i2 : ¬ (sl : Int) ≤ (id : Int) := by omega
  clear h hlv hv hl hsl hon e
  go_enter Tryz.func41, Tryz.ntmps41
  go_wp2_with fail
  refine K.out.mono ?_
  rintro e w' ⟨u, rfl, h1, h2⟩
  have H1 := Lib.hid h1
  have H2 := Lib.hid h2
  clear h1 h2
  go_wp2_with fail
  go_ret
  exact ⟨_, rfl, H1.out, H2.out⟩
set_option maxHeartbeats 1600000 in
theorem slots_out {w : World} {A : Adr} {t : Nat → Tg} {mb : Nat} {F : Fns} {m : MS} (h : Md w A t mb F m) (id : Int) (ho : id < 1 ∨ (1 ≤ id ∧ (m.slots.length : Int) ≤ id)) :
    Calls Tryz.prog 41 #[.pointer (some ⟨mb, 0, none⟩), .int .i64 id] w fun e w' => e = .returned (.slice none 0 0) ∧ w = w' := by
  have c5 : w.cell? ⟨mb, 5, none⟩ = some A.lv := h.box.box.cell 5
  obtain ⟨a, c, hv⟩ := T13.row_val h.slr.row
  rw [hv] at c5
  clear h hv
  rcases ho with i0 | ⟨i0, i1⟩
  · go_enter Tryz.func41, Tryz.ntmps41
    go_wp2_with fail
    go_ret
    exact ⟨rfl, rfl⟩
  · have i2 : ¬ id < 1 := by omega
    go_enter Tryz.func41, Tryz.ntmps41
    go_wp2_with fail
    go_ret
    exact ⟨rfl, rfl⟩

set_option maxHeartbeats 1600000 in
theorem stack_out {w : World} {A : Adr} {t : Nat → Tg} {mb : Nat} {F : Fns} {m : MS} (h : Md w A t mb F m) (g : Int) (ho : g < 0 ∨ (0 ≤ g ∧ (m.gs.length : Int) ≤ g)) :
    Calls Tryz.prog 40 #[.pointer (some ⟨mb, 0, none⟩), .int .i64 g] w fun e w' => e = .returned (.slice none 0 0) ∧ w = w' := by
  have c3 : w.cell? ⟨mb, 3, none⟩ = some A.gv := h.box.box.cell 3
  obtain ⟨a, c, hv⟩ := T13.row_val h.grow.row
  rw [hv] at c3
  clear h hv
  rcases ho with i0 | ⟨i0, i1⟩
  · go_enter Tryz.func40, Tryz.ntmps40
    go_wp2_with fail
    go_ret
    exact ⟨rfl, rfl⟩
  · have i2 : ¬ g < 0 := by omega
    go_enter Tryz.func40, Tryz.ntmps40
    go_wp2_with fail
    go_ret
    exact ⟨rfl, rfl⟩

/-- Nobody can go on, and some wait. -/
def stuckM (m : MS) : Bool := m.st.count 1 == 0 && (m.sleep.length == 0 && decide (0 < cntW m.wait 32))
set_option maxHeartbeats 3200000 in
theorem stuck_any {w : World} {A : Adr} {t : Nat → Tg} {mb : Nat} {F : Fns} {m : MS} (h : Md w A t mb F m) (hs : ∀ i, (m.wait.getD i []).length ≤ 100000) :
    Calls Tryz.prog 37 #[.pointer (some ⟨mb, 0, none⟩)] w fun e w' => e = .returned (.bool (stuckM m)) ∧ w = w' := by
  have c2 : w.cell? ⟨mb, 2, none⟩ = some (.pointer (some ⟨A.sb, 0, none⟩)) := h.box.box.cell 2
  have c6 : w.cell? ⟨mb, 6, none⟩ = some (.pointer (some ⟨A.tb, 0, none⟩)) := h.box.box.cell 6
  have c7 : w.cell? ⟨mb, 7, none⟩ = some (.pointer (some ⟨A.wb, 0, none⟩)) := h.box.box.cell 7
  have K1 := Lib.hid (S12.count_any h.st 1 (by omega) (by omega))
  have K2 := Lib.hid (T13.ts_len h.tm)
  have K3 := Lib.hid (wlen_any (h.wt hs))
  unfold stuckM
  obtain ⟨n1, h1⟩ : ∃ n, m.st.count 1 = n := ⟨_, rfl⟩
  obtain ⟨n2, h2⟩ : ∃ n, m.sleep.length = n := ⟨_, rfl⟩
  obtain ⟨n3, h3⟩ : ∃ n, cntW m.wait 32 = n := ⟨_, rfl⟩
  rw [h1] at K1
  rw [h2] at K2
  rw [h3] at K3
  rw [h1, h2, h3]
  rw [show ((1 : Nat) : Int) = 1 from rfl] at K1
  clear h hs h1 h2 h3
  by_cases e1 : n1 = 0
  · subst e1
    rw [show ((0 : Nat) : Int) = 0 from rfl] at K1
    by_cases e2 : n2 = 0
    · subst e2
      rw [show ((0 : Nat) : Int) = 0 from rfl] at K2
      go_enter Tryz.func37, Tryz.ntmps37
      go_wp2_with fail
      refine K1.out.mono ?_
      rintro e w' ⟨rfl, rfl⟩
      go_wp2_with fail
      refine K2.out.mono ?_
      rintro e w' ⟨rfl, rfl⟩
      go_wp2_with fail
      refine K3.out.mono ?_
      rintro e w' ⟨rfl, rfl⟩
      go_wp2_with fail
      go_ret
      exact ⟨by simp, rfl⟩
    · have d2 : ((n2 : Int) == 0) = false := by simp; omega
      go_enter Tryz.func37, Tryz.ntmps37
      go_wp2_with fail
      refine K1.out.mono ?_
      rintro e w' ⟨rfl, rfl⟩
      go_wp2_with fail
      refine K2.out.mono ?_
      rintro e w' ⟨rfl, rfl⟩
      go_wp2_with fail
      go_ret
      exact ⟨by simp [e2], rfl⟩
  · have d1 : ((n1 : Int) == 0) = false := by simp; omega
    go_enter Tryz.func37, Tryz.ntmps37
    go_wp2_with fail
    refine K1.out.mono ?_
    rintro e w' ⟨rfl, rfl⟩
    go_wp2_with fail
    go_ret
    exact ⟨by simp [e1], rfl⟩

end Go.Proofs.YtmlobpapjfkbmaaGreat

/- A model's Do, where nothing is done. -/
namespace Go.Proofs.YtmlobpapjfkbmaaGreat
open Go.RowKit
set_option linter.unusedVariables false
set_option maxRecDepth 20000
set_option linter.unusedSimpArgs false

def noCm : Value := .agg #[.int .i64 0, .int .i64 0, .int .i64 0, .int .i64 0, .int .i64 0, .bool false]

/-- The blocks that Do makes first. -/
theorem three_new (w : World) (x y : Value) : Ex w (((w.alloc (.cells #[x] 29)).alloc (.cells #[y] 3)).alloc (.cells #[.int .i64 0, .int .i64 0, .int .i64 0, .int .i64 0, .int .i64 0, .bool false] 50)) ∧
    Box (((w.alloc (.cells #[x] 29)).alloc (.cells #[y] 3)).alloc (.cells #[.int .i64 0, .int .i64 0, .int .i64 0, .int .i64 0, .int .i64 0, .bool false] 50)) (w.heap.size + 1 + 1) #[.int .i64 0, .int .i64 0, .int .i64 0, .int .i64 0, .int .i64 0, .bool false] 50 := by
  refine ⟨((Ex.made _ _).trans (Ex.made _ _)).trans (Ex.made _ _), ?_⟩
  have := Box.fresh ((w.alloc (.cells #[x] 29)).alloc (.cells #[y] 3)) #[.int .i64 0, .int .i64 0, .int .i64 0, .int .i64 0, .int .i64 0, .bool false] 50
  simpa using this

set_option maxHeartbeats 6400000 in
theorem do_nil (w : World) (g : Int) : Calls Tryz.prog 12 #[.pointer none, .int .i64 g] w fun e w' => e = .returned (.tuple #[noCm, .int .i64 1]) ∧ Ex w w' := by
  obtain ⟨x0, b2⟩ := three_new w (.pointer none) (.int .i64 g)
  have X0 := Lib.hid x0
  have B2 := Lib.hid b2
  clear x0 b2
  go_enter Tryz.func12, Tryz.ntmps12
  go_wp2_with fail
  have z0 : (((w.alloc (.cells #[.pointer none] 29)).alloc (.cells #[.int .i64 g] 3)).alloc (.cells #[.int .i64 0, .int .i64 0, .int .i64 0, .int .i64 0, .int .i64 0, .bool false] 50)).cell? ⟨w.heap.size + 1 + 1, 0, none⟩ = some (.int .i64 0) := B2.out.cell 0
  have z1 : (((w.alloc (.cells #[.pointer none] 29)).alloc (.cells #[.int .i64 g] 3)).alloc (.cells #[.int .i64 0, .int .i64 0, .int .i64 0, .int .i64 0, .int .i64 0, .bool false] 50)).cell? ⟨w.heap.size + 1 + 1, 1, none⟩ = some (.int .i64 0) := B2.out.cell 1
  have z2 : (((w.alloc (.cells #[.pointer none] 29)).alloc (.cells #[.int .i64 g] 3)).alloc (.cells #[.int .i64 0, .int .i64 0, .int .i64 0, .int .i64 0, .int .i64 0, .bool false] 50)).cell? ⟨w.heap.size + 1 + 1, 2, none⟩ = some (.int .i64 0) := B2.out.cell 2
  have z3 : (((w.alloc (.cells #[.pointer none] 29)).alloc (.cells #[.int .i64 g] 3)).alloc (.cells #[.int .i64 0, .int .i64 0, .int .i64 0, .int .i64 0, .int .i64 0, .bool false] 50)).cell? ⟨w.heap.size + 1 + 1, 3, none⟩ = some (.int .i64 0) := B2.out.cell 3
  have z4 : (((w.alloc (.cells #[.pointer none] 29)).alloc (.cells #[.int .i64 g] 3)).alloc (.cells #[.int .i64 0, .int .i64 0, .int .i64 0, .int .i64 0, .int .i64 0, .bool false] 50)).cell? ⟨w.heap.size + 1 + 1, 4, none⟩ = some (.int .i64 0) := B2.out.cell 4
  have z5 : (((w.alloc (.cells #[.pointer none] 29)).alloc (.cells #[.int .i64 g] 3)).alloc (.cells #[.int .i64 0, .int .i64 0, .int .i64 0, .int .i64 0, .int .i64 0, .bool false] 50)).cell? ⟨w.heap.size + 1 + 1, 5, none⟩ = some (.bool false) := B2.out.cell 5
  exact bodyPost_ret (v := .tuple #[.agg #[.int .i64 0, .int .i64 0, .int .i64 0, .int .i64 0, .int .i64 0, .bool false], .int .i64 1]) (by generalize (((w.alloc (.cells #[.pointer none] 29)).alloc (.cells #[.int .i64 g] 3)).alloc (.cells #[.int .i64 0, .int .i64 0, .int .i64 0, .int .i64 0, .int .i64 0, .bool false] 50)) = Z at z0 z1 z2 z3 z4 z5 ⊢; simp [results, Tryz.results12, go_sem, z0, z1, z2, z3, z4, z5]) rfl ⟨rfl, X0.out⟩

set_option maxHeartbeats 6400000 in
theorem do_not {w : World} {mb : Nat} (g : Int) (s : Nat) (hs : s ≠ 1) (K0 : ∀ W, Ex w W → Calls Tryz.prog 18 #[.pointer (some ⟨mb, 0, none⟩), .int .i64 g] W fun e w' => e = .returned (.int .i64 (s : Nat)) ∧ W = w') :
    Calls Tryz.prog 12 #[.pointer (some ⟨mb, 0, none⟩), .int .i64 g] w fun e w' => e = .returned (.tuple #[noCm, .int .i64 (if s = 0 then 4 else 5)]) ∧ Ex w w' := by
  obtain ⟨x0, b2⟩ := three_new w (.pointer (some ⟨mb, 0, none⟩)) (.int .i64 g)
  have X0 := Lib.hid x0
  have B2 := Lib.hid b2
  have K := Lib.hid (K0 _ x0)
  clear x0 b2 K0
  by_cases h0 : s = 0
  · subst h0
    rw [show ((0 : Nat) : Int) = 0 from rfl] at K
    simp only [if_true]
    go_enter Tryz.func12, Tryz.ntmps12
    go_wp2_with fail
    refine K.out.mono ?_
    rintro e w' ⟨rfl, rfl⟩
    go_wp2_with fail
    have z0 : (((w.alloc (.cells #[.pointer (some ⟨mb, 0, none⟩)] 29)).alloc (.cells #[.int .i64 g] 3)).alloc (.cells #[.int .i64 0, .int .i64 0, .int .i64 0, .int .i64 0, .int .i64 0, .bool false] 50)).cell? ⟨w.heap.size + 1 + 1, 0, none⟩ = some (.int .i64 0) := B2.out.cell 0
    have z1 : (((w.alloc (.cells #[.pointer (some ⟨mb, 0, none⟩)] 29)).alloc (.cells #[.int .i64 g] 3)).alloc (.cells #[.int .i64 0, .int .i64 0, .int .i64 0, .int .i64 0, .int .i64 0, .bool false] 50)).cell? ⟨w.heap.size + 1 + 1, 1, none⟩ = some (.int .i64 0) := B2.out.cell 1
    have z2 : (((w.alloc (.cells #[.pointer (some ⟨mb, 0, none⟩)] 29)).alloc (.cells #[.int .i64 g] 3)).alloc (.cells #[.int .i64 0, .int .i64 0, .int .i64 0, .int .i64 0, .int .i64 0, .bool false] 50)).cell? ⟨w.heap.size + 1 + 1, 2, none⟩ = some (.int .i64 0) := B2.out.cell 2
    have z3 : (((w.alloc (.cells #[.pointer (some ⟨mb, 0, none⟩)] 29)).alloc (.cells #[.int .i64 g] 3)).alloc (.cells #[.int .i64 0, .int .i64 0, .int .i64 0, .int .i64 0, .int .i64 0, .bool false] 50)).cell? ⟨w.heap.size + 1 + 1, 3, none⟩ = some (.int .i64 0) := B2.out.cell 3
    have z4 : (((w.alloc (.cells #[.pointer (some ⟨mb, 0, none⟩)] 29)).alloc (.cells #[.int .i64 g] 3)).alloc (.cells #[.int .i64 0, .int .i64 0, .int .i64 0, .int .i64 0, .int .i64 0, .bool false] 50)).cell? ⟨w.heap.size + 1 + 1, 4, none⟩ = some (.int .i64 0) := B2.out.cell 4
    have z5 : (((w.alloc (.cells #[.pointer (some ⟨mb, 0, none⟩)] 29)).alloc (.cells #[.int .i64 g] 3)).alloc (.cells #[.int .i64 0, .int .i64 0, .int .i64 0, .int .i64 0, .int .i64 0, .bool false] 50)).cell? ⟨w.heap.size + 1 + 1, 5, none⟩ = some (.bool false) := B2.out.cell 5
    exact bodyPost_ret (v := .tuple #[.agg #[.int .i64 0, .int .i64 0, .int .i64 0, .int .i64 0, .int .i64 0, .bool false], .int .i64 4]) (by generalize (((w.alloc (.cells #[.pointer (some ⟨mb, 0, none⟩)] 29)).alloc (.cells #[.int .i64 g] 3)).alloc (.cells #[.int .i64 0, .int .i64 0, .int .i64 0, .int .i64 0, .int .i64 0, .bool false] 50)) = Z at z0 z1 z2 z3 z4 z5 ⊢; simp [results, Tryz.results12, go_sem, z0, z1, z2, z3, z4, z5]) rfl ⟨rfl, X0.out⟩
  · simp only [if_neg h0]
    have d0 : ((s : Int) == 0) = false := by simp; omega
    have d1 : ((s : Int) != 1) = true := by simp; omega
    go_enter Tryz.func12, Tryz.ntmps12
    go_wp2_with fail
    refine K.out.mono ?_
    rintro e w' ⟨rfl, rfl⟩
    go_wp2_with fail
    refine K.out.mono ?_
    rintro e w' ⟨rfl, rfl⟩
    go_wp2_with fail
    have z0 : (((w.alloc (.cells #[.pointer (some ⟨mb, 0, none⟩)] 29)).alloc (.cells #[.int .i64 g] 3)).alloc (.cells #[.int .i64 0, .int .i64 0, .int .i64 0, .int .i64 0, .int .i64 0, .bool false] 50)).cell? ⟨w.heap.size + 1 + 1, 0, none⟩ = some (.int .i64 0) := B2.out.cell 0
    have z1 : (((w.alloc (.cells #[.pointer (some ⟨mb, 0, none⟩)] 29)).alloc (.cells #[.int .i64 g] 3)).alloc (.cells #[.int .i64 0, .int .i64 0, .int .i64 0, .int .i64 0, .int .i64 0, .bool false] 50)).cell? ⟨w.heap.size + 1 + 1, 1, none⟩ = some (.int .i64 0) := B2.out.cell 1
    have z2 : (((w.alloc (.cells #[.pointer (some ⟨mb, 0, none⟩)] 29)).alloc (.cells #[.int .i64 g] 3)).alloc (.cells #[.int .i64 0, .int .i64 0, .int .i64 0, .int .i64 0, .int .i64 0, .bool false] 50)).cell? ⟨w.heap.size + 1 + 1, 2, none⟩ = some (.int .i64 0) := B2.out.cell 2
    have z3 : (((w.alloc (.cells #[.pointer (some ⟨mb, 0, none⟩)] 29)).alloc (.cells #[.int .i64 g] 3)).alloc (.cells #[.int .i64 0, .int .i64 0, .int .i64 0, .int .i64 0, .int .i64 0, .bool false] 50)).cell? ⟨w.heap.size + 1 + 1, 3, none⟩ = some (.int .i64 0) := B2.out.cell 3
    have z4 : (((w.alloc (.cells #[.pointer (some ⟨mb, 0, none⟩)] 29)).alloc (.cells #[.int .i64 g] 3)).alloc (.cells #[.int .i64 0, .int .i64 0, .int .i64 0, .int .i64 0, .int .i64 0, .bool false] 50)).cell? ⟨w.heap.size + 1 + 1, 4, none⟩ = some (.int .i64 0) := B2.out.cell 4
    have z5 : (((w.alloc (.cells #[.pointer (some ⟨mb, 0, none⟩)] 29)).alloc (.cells #[.int .i64 g] 3)).alloc (.cells #[.int .i64 0, .int .i64 0, .int .i64 0, .int .i64 0, .int .i64 0, .bool false] 50)).cell? ⟨w.heap.size + 1 + 1, 5, none⟩ = some (.bool false) := B2.out.cell 5
    exact bodyPost_ret (v := .tuple #[.agg #[.int .i64 0, .int .i64 0, .int .i64 0, .int .i64 0, .int .i64 0, .bool false], .int .i64 5]) (by generalize (((w.alloc (.cells #[.pointer (some ⟨mb, 0, none⟩)] 29)).alloc (.cells #[.int .i64 g] 3)).alloc (.cells #[.int .i64 0, .int .i64 0, .int .i64 0, .int .i64 0, .int .i64 0, .bool false] 50)) = Z at z0 z1 z2 z3 z4 z5 ⊢; simp [results, Tryz.results12, go_sem, z0, z1, z2, z3, z4, z5]) rfl ⟨rfl, X0.out⟩

end Go.Proofs.YtmlobpapjfkbmaaGreat

