/- Part 14 of what is proved of the program of layer 16: RTo16, RAddo16, RDueo16, RUp16. -/
import Derived.Test.YtmlobpapjfkbmaaGreatK3
import Derived.Test.YtmlobpapjfkbmaaGreatK7
import Derived.Deep.RegionHeld3
import Derived.Maps.AppendAt
import Derived.Laws.CopyOwn
import Derived.Great.Walk
import Derived.Test.YtmlobpapjfkbmaaGreatK4
/- The document's timers: what they hold; appends of timers in a region that draws. -/
namespace Go.Proofs.YtmlobpapjfkbmaaGreat.T13
open Go.RowKit
set_option linter.unusedVariables false
set_option maxRecDepth 20000
set_option linter.unusedSimpArgs false

theorem ex_drw (w : World) : Ex w w.drew := Ex.drawn w 1

/-- The two cells of each. -/
def cellsR : List T3 → List Value
  | [] => []
  | p :: l => .int .i64 p.1 :: .int .i64 p.2.1 :: cellsR l
theorem cellsR_length : ∀ l, (cellsR l).length = l.length * 2
  | [] => rfl
  | p :: l => by simp [cellsR, cellsR_length l]; omega
theorem cellsR_append : ∀ a b, cellsR (a ++ b) = cellsR a ++ cellsR b
  | [], b => rfl
  | p :: l, b => by simp [cellsR, cellsR_append l b]
theorem cellsR_at : ∀ (l : List T3) (k : Nat) (h : k < l.length), (cellsR l)[k * 2]? = some (.int .i64 l[k].1) ∧ (cellsR l)[k * 2 + 1]? = some (.int .i64 l[k].2.1)
  | [], k, h => by simp at h
  | p :: l, 0, h => by simp [cellsR]
  | p :: l, k + 1, h => by
    have ih := cellsR_at l k (by simpa using h)
    rw [show (k + 1) * 2 = k * 2 + 2 by omega, show k * 2 + 2 + 1 = k * 2 + 1 + 2 by omega]
    simpa [cellsR] using ih
theorem cellsR_one (l : List T3) : ∀ u ∈ cellsR l, u.oneCell' = true := by
  induction l with
  | nil => intro u hu; cases hu
  | cons p l ih =>
    intro u hu
    simp only [cellsR, List.mem_cons] at hu
    rcases hu with rfl | rfl | hu
    · rfl
    · rfl
    · exact ih u hu
theorem infoR : (Tryz.prog.info? 111).map (fun i => (i.zero, i.size, i.bytes)) = some (some (.agg #[.int .i64 0, .int .i64 0]), 2, 16) := by kernel_rfl

/-- Timers that can be read off a slice's block, cell by cell. -/
def Rd (w : World) (g off : Nat) (L : List T3) : Prop := ∀ i, i < L.length → w.cell? ⟨g, off + i * 2, none⟩ = some (.int .i64 (at3 L i).1) ∧ w.cell? ⟨g, off + i * 2 + 1, none⟩ = some (.int .i64 (at3 L i).2.1)

/-- The document's timers in the block xb: a slice of L. -/
structure Rt (w : World) (xb xo : Nat) (v : Value) (L : List T3) : Prop where
  cell : w.cell? ⟨xb, xo, none⟩ = some v
  soft : w.frozen? ⟨xb, xo, none⟩ = false
  lt : xb < w.heap.size
  row : (v = .slice none 0 0 ∧ L = []) ∨ ∃ g off cap, v = .slice (some ⟨g, off, none⟩) L.length cap ∧ L.length ≤ cap ∧ g ≠ xb ∧ g < w.heap.size ∧ Rd w g off L

theorem Rd.ex {w w' : World} {g off : Nat} {L : List T3} (h : Rd w g off L) (hg : g < w.heap.size) (x : Ex w w') : Rd w' g off L := fun i hi =>
  ⟨(x.cell (p := ⟨g, off + i * 2, none⟩) hg).trans (h i hi).1, (x.cell (p := ⟨g, off + i * 2 + 1, none⟩) hg).trans (h i hi).2⟩
theorem Rd.chg {w w' : World} {g off : Nat} {L : List T3} {F : Nat → Prop} (h : Rd w g off L) (hg : g < w.heap.size) (hF : ¬ F g) (x : Chg F w w') : Rd w' g off L := fun i hi => by
  have hb := x.block g hg hF
  constructor
  · have := (h i hi).1
    simp only [World.cell?, hb] at this ⊢
    exact this
  · have := (h i hi).2
    simp only [World.cell?, hb] at this ⊢
    exact this
theorem Rt.chg {w w' : World} {xb xo : Nat} {v : Value} {L : List T3} {F : Nat → Prop} (h : Rt w xb xo v L) (hx : ¬ F xb) (hF : ∀ g, v.ownBlock = some g → ¬ F g) (x : Chg F w w') : Rt w' xb xo v L := by
  have hb := x.block xb h.lt hx
  refine ⟨?_, ?_, Nat.lt_of_lt_of_le h.lt x.size, ?_⟩
  · have := h.cell
    simp only [World.cell?, hb] at this ⊢
    exact this
  · have := h.soft
    simp only [World.frozen?, hb] at this ⊢
    exact this
  · rcases h.row with h1 | ⟨g, off, cap, h1, h2, h3, h4, h5⟩
    · exact .inl h1
    · refine .inr ⟨g, off, cap, h1, h2, h3, Nat.lt_of_lt_of_le h4 x.size, h5.chg h4 (hF g (by rw [h1]; rfl)) x⟩
theorem Rt.ex {w w' : World} {xb xo : Nat} {v : Value} {L : List T3} (h : Rt w xb xo v L) (x : Ex w w') : Rt w' xb xo v L := h.chg (F := fun _ => False) (fun h => h) (fun _ _ h => h) (x.chg _)

/-- A row of the region's own, in a later world. -/
structure CT (Y0 Y : World) (v : Value) (L : List T3) : Prop where
  ex : Ex Y0 Y
  row : Y.ownsRow Y0.heap.size 111 2 v L.length (cellsR L)
theorem CT.base {Y0 Y : World} {v : Value} {L : List T3} (h : CT Y0 Y v L) (q : Nat) (hq : v.ownBlock = some q) : Y0.heap.size ≤ q ∧ q < Y.heap.size := by
  rcases row_shape h.row with ⟨h1, -, -⟩ | ⟨g, cap, h1, h2, h3, -⟩
  · subst h1; cases hq
  · subst h1; cases hq; exact ⟨h2, h3⟩
theorem CT.shape {Y0 Y : World} {v : Value} {L : List T3} (h : CT Y0 Y v L) : ∃ a n c, v = .slice a n c := by
  rcases row_shape h.row with ⟨rfl, -⟩ | ⟨g, cap, rfl, -⟩
  · exact ⟨_, _, _, rfl⟩
  · exact ⟨_, _, _, rfl⟩
theorem CT.lit {Y0 Y : World} (h : Ex Y0 Y) : CT Y0 (Y.alloc (.cells #[] 111)) (.slice (some ⟨Y.heap.size, 0, none⟩) 0 0) [] :=
  ⟨h.trans (Ex.made Y _), rfl, .inr ⟨Y.heap.size, 0, #[], rfl, h.size, heap_alloc_new Y _, Nat.le_refl _, by unfold maxLen; omega, rfl, rfl⟩⟩
theorem CT.made {Y0 Y : World} {v : Value} {L : List T3} (h : CT Y0 Y v L) (o : Obj) : CT Y0 (Y.alloc o) v L := ⟨h.ex.trans (Ex.made Y o), World.ownsRow.alloc h.row o⟩
theorem CT.new {Y0 Y : World} {v : Value} {L : List T3} (h : CT Y0 Y v L) : v.ownBlock ≠ some Y.heap.size := fun e => by have := (h.base _ e).2; omega
theorem CT.grow {Y0 Y Y' : World} {v v' : Value} {L M : List T3} (h : CT Y0 Y v L) (hr : Y'.ownsRow Y0.heap.size 111 2 v' M.length (cellsR M)) (hg : Y.grownBy Y' v.ownBlock) : CT Y0 Y' v' M :=
  ⟨Below.grown h.ex hg h.ex.size (fun k hk => (h.base k hk).1), hr⟩
theorem box_far {Y Y' : World} {v : Value} {nb : Nat} {cs : Array Value} {t : TypeId} (h : Box Y nb cs t) (hne : v.ownBlock ≠ some nb) (hg : Y.grownBy Y' v.ownBlock) : Box Y' nb cs t :=
  (hg.block nb h.lt (fun e => hne e.symm)).trans h
theorem own_far {Y : World} {v v' : Value} {nb : Nat} {cs : Array Value} {t : TypeId} (h : Box Y nb cs t) (hne : v.ownBlock ≠ some nb) (hat : v'.ownBlock = v.ownBlock ∨ v'.ownBlock = some Y.heap.size) : v'.ownBlock ≠ some nb := by
  rcases hat with e | e
  · rw [e]; exact hne
  · rw [e]; intro h'; have := h.lt; cases h'; omega
theorem box_news2 {Y : World} {nb : Nat} {p : T3} (h : Box Y nb #[.int .i64 p.1, .int .i64 p.2.1] 111) : ∀ (j : Nat) (u : Value), (cellsR [p])[j]? = some u → Y.cell? ((⟨nb, 0, none⟩ : Addr).add j) = some u := by
  intro j u hj
  rw [show (⟨nb, 0, none⟩ : Addr).add j = ⟨nb, j, none⟩ by simp [Addr.add]; exact fun h => h.symm, h.cell j]
  simpa [cellsR] using hj

/-- append of any number of timers at a step of a region that draws. -/
theorem step_append_ct {ops : Array Oper} {o : Oper} {a : Act} {K : Act → World → Prop} {Q : Exit → Act → World → Prop} {E : Prop} {Y0 Y : World} {v : Value} {L : List T3} (hgd : o.guard = none) (s x : Operand) (t : TypeId)
    (ho : o.op = .call { callee := .builtin .append, args := #[s, x], argTypes := #[t, t] }) (h : CT Y0 Y v L) (hs : a.eval s = v) (ao : Option Addr) (m c : Nat) (hx : a.eval x = .slice ao m c) (M : List T3) (hl : M.length = m)
    (hnone : ao = none → m = 0 ∧ c = 0) (hc : ∀ ad, ao = some ad → ∀ j u, (cellsR M)[j]? = some u → Y.cell? (ad.add j) = some u) (hb : L.length + m ≤ 1000)
    (k : ∀ v' Y', CT Y0 Y' v' (L ++ M) → Y.grownBy Y' v.ownBlock → (v'.ownBlock = v.ownBlock ∨ v'.ownBlock = some Y.heap.size) → K (a.put o.dst v') Y') (ht : Tryz.prog.underlying t = some (.slice 111) := by kernel_rfl) :
    if Region.wanted o (yielded ops a.tmps) = true then Oper.wp Tryz.prog o a Y K Q else E := by
  have hw : Region.wanted o (yielded ops a.tmps) = true := by simp [Region.wanted, hgd]
  rw [if_pos hw]
  obtain ⟨i0, hi, hz0, hz1, hz2⟩ := info_parts infoR
  subst hl
  have key : ∃ v' Y', (Builtin.append_ #[t, t] o.type #[v, .slice ao M.length c]).run Tryz.prog Y = .ok v' Y' ∧ CT Y0 Y' v' (L ++ M) ∧ Y.grownBy Y' v.ownBlock ∧ (v'.ownBlock = v.ownBlock ∨ v'.ownBlock = some Y.heap.size) := by
    cases ao with
    | some ad =>
      obtain ⟨v', w', hr, h2, h3, h4, h5⟩ := run_append_own_at (P := Tryz.prog) Y Y0.heap.size t o.type 111 i0 (.agg #[.int .i64 0, .int .i64 0]) 2 16 ht hi hz0 hz1 hz2 rfl (by decide) v L.length (cellsR L) h.row ad M.length c (cellsR M) (cellsR_length M) (hc ad rfl) (cellsR_one M) (by unfold maxLen; omega) (by omega) h.ex.size
      refine ⟨v', w', hr, h.grow ?_ h3, h3, h5⟩
      rw [List.length_append, cellsR_append]
      exact h2
    | none =>
      obtain ⟨hm, rfl⟩ := hnone rfl
      have hn : M = [] := List.eq_nil_of_length_eq_zero hm
      subst hn
      refine ⟨v, Y, ?_, by rw [List.append_nil]; exact h, ⟨rfl, rfl, rfl, Nat.le_refl _, fun _ _ _ => rfl⟩, .inl rfl⟩
      rcases row_shape h.row with ⟨rfl, h2, h3⟩ | ⟨g, cap, rfl, -⟩
      · simp [Builtin.append_, run_underlying ht, sizeOf, typeInfo, hi, Builtin.lenOf, Builtin.firstCells, loadCells, loadCellsFrom]
      · exact run_append_owned_none (P := Tryz.prog) Y Y0.heap.size t o.type 111 i0 2 ht hi _ _ _ h.row
  obtain ⟨v', Y', hr, h2, h3, h4⟩ := key
  unfold Oper.wp execOp
  simp only [ho, resolve, invoke, builtin, Sem.run_bind, Sem.run_pure, Result.andThen_ok, List.map_toArray, List.map_cons, List.map_nil, hs, hx, hr]
  exact k v' Y' h2 h3 h4

/-- The row is the old one's block or a new one. -/
def NewB (w : World) (v v' : Value) : Prop := ∀ g, v'.ownBlock = some g → v.ownBlock = some g ∨ w.heap.size ≤ g

/-- The last step: the row is laid into the block. -/
theorem step_store_ct {ops : Array Oper} {o : Oper} {a : Act} {K : Act → World → Prop} {Q : Exit → Act → World → Prop} {E : Prop} {Y : World} {xb xo : Nat} {u0 : Value} {sa : Option Addr} {sn sc : Nat} (hgd : o.guard = none) (hd : o.dst = none) (x v : Operand)
    (ho : o.op = .store 41 x v) (hp : a.eval x = .pointer (some ⟨xb, xo, none⟩)) (hv : a.eval v = .slice sa sn sc) (c : Y.cell? ⟨xb, xo, none⟩ = some u0) (s : Y.frozen? ⟨xb, xo, none⟩ = false)
    (k : K a (Y.setCell ⟨xb, xo, none⟩ (.slice sa sn sc))) : if Region.wanted o (yielded ops a.tmps) = true then Oper.wp Tryz.prog o a Y K Q else E := by
  have hw : Region.wanted o (yielded ops a.tmps) = true := by simp [Region.wanted, hgd]
  rw [if_pos hw]
  unfold Oper.wp execOp
  simp only [ho, hp, hv]
  go_simp
  exact k

theorem heldL_store_ct {ops : Array Oper} {a : Act} {Q : Exit → Act → World → Prop} {S : World → Prop} {Y : World} {xb xo n fuel : Nat} {listed : Array Bool} {u0 : Value} {sa : Option Addr} {sn sc : Nat} (p q : Tmp)
    (hr : Region.ready .any ops listed = [n]) (hr2 : Region.ready .any ops (listed.setIfInBounds n true) = [])
    (ho : (ops[n]?).map (fun o => (o.op, o.guard, o.dst)) = some (.store 41 (.tmp p) (.tmp q), none, none)) (hp : a.eval (.tmp p) = .pointer (some ⟨xb, xo, none⟩)) (hv : a.eval (.tmp q) = .slice sa sn sc)
    (c : Y.cell? ⟨xb, xo, none⟩ = some u0) (s : Y.frozen? ⟨xb, xo, none⟩ = false)
    (k : Q .normal a (Y.setCell ⟨xb, xo, none⟩ (.slice sa sn sc))) : HeldL Tryz.prog .any ops Q S n (fuel + 1) listed a Y := by
  cases hi : ops[n]? with
  | none => rw [hi] at ho; cases ho
  | some o =>
    rw [hi] at ho
    simp only [Option.map_some, Option.some.injEq, Prod.mk.injEq] at ho
    obtain ⟨ho, hgd, hd⟩ := ho
    refine heldL_last hr hr2 (wpOp_step hi fun K' hK => ?_)
    refine step_store_ct hgd hd _ _ ho hp hv c s ?_
    exact hK _ _ k

/-- Nothing but the cell xo of the block xb is turned. -/
def Chx (xb xo : Nat) (w w' : World) : Prop := Chg (fun i => i = xb) w w' ∧ ∀ cs ty, Box w xb cs ty → ∃ u, Box w' xb (cs.setIfInBounds xo u) ty
theorem Chx.refl (xb xo : Nat) (w : World) : Chx xb xo w w := ⟨Chg.refl _ _, fun cs ty h => by
  by_cases hx : xo < cs.size
  · refine ⟨cs[xo], ?_⟩
    have : cs.setIfInBounds xo cs[xo] = cs := by
      apply Array.ext (by simp)
      intro i h1 h2
      rw [Array.getElem_setIfInBounds]
      split
      · next e => subst e; rfl
      · rfl
    rw [this]; exact h
  · refine ⟨.bool true, ?_⟩
    have : cs.setIfInBounds xo (.bool true) = cs := by simp [Array.setIfInBounds, hx]
    rw [this]; exact h⟩
theorem Chx.exl {xb xo : Nat} {w w1 w2 : World} (x : Ex w w1) (h : Chx xb xo w1 w2) : Chx xb xo w w2 := ⟨(x.chg _).trans h.1 (fun _ _ h => h), fun cs ty hb => h.2 cs ty (hb.ex x)⟩
theorem Chx.put {xb xo : Nat} {w w1 : World} (h : Chg (fun i => i ≠ xb) w w1) (v : Value) (h' : Chg (fun i => i = xb) w (w1.setCell ⟨xb, xo, none⟩ v)) : Chx xb xo w (w1.setCell ⟨xb, xo, none⟩ v) :=
  ⟨h', fun cs ty hb => ⟨v, ((hb.chg h (fun h => h rfl)).put xo v)⟩⟩
theorem Chx.next {xb xo : Nat} {w w1 w2 : World} (h : Chx xb xo w w1) (hx : xb < w.heap.size) (k : Chg (fun i => w.heap.size ≤ i) w1 w2) (v : Value) : Chx xb xo w (w2.setCell ⟨xb, xo, none⟩ v) :=
  ⟨(h.1.trans k (fun i hl hi => by omega)).trans (Chg.cell (F := fun i => i = xb) w2 ⟨xb, xo, none⟩ _ rfl) (fun _ _ h => h), fun cs ty hb => by
    obtain ⟨u, hu⟩ := h.2 cs ty hb
    refine ⟨v, ?_⟩
    have h2 := (hu.chg k (by omega)).put xo v
    have : (cs.setIfInBounds xo u).setIfInBounds xo v = cs.setIfInBounds xo v := by simp
    rw [this] at h2; exact h2⟩
theorem Chx.trans {xb xo : Nat} {w w1 w2 : World} (h : Chx xb xo w w1) (k : Chx xb xo w1 w2) : Chx xb xo w w2 := ⟨h.1.trans k.1 (fun _ _ h => h), fun cs ty hb => by
  obtain ⟨u, hu⟩ := h.2 cs ty hb
  obtain ⟨u2, hu2⟩ := k.2 _ ty hu
  refine ⟨u2, ?_⟩
  have : (cs.setIfInBounds xo u).setIfInBounds xo u2 = cs.setIfInBounds xo u2 := by simp
  rw [this] at hu2; exact hu2⟩

theorem rt_store {Y0 Y : World} {xb xo : Nat} {v v3 : Value} {L M : List T3} (h : Rt Y0 xb xo v L) (c : CT Y0 Y v3 M) : Rt (Y.setCell ⟨xb, xo, none⟩ v3) xb xo v3 M ∧ Chx xb xo Y0 (Y.setCell ⟨xb, xo, none⟩ v3) ∧ ∀ g, v3.ownBlock = some g → Y0.heap.size ≤ g := by
  have hx := h.ex c.ex
  have hs : (Y.setCell ⟨xb, xo, none⟩ v3).heap.size = Y.heap.size := by simp [World.setCell]
  have hc : (Y.setCell ⟨xb, xo, none⟩ v3).cell? ⟨xb, xo, none⟩ = some v3 := by
    have := hx.cell
    go_simp
  refine ⟨⟨hc, by rw [World.frozen?_setCell]; exact hx.soft, by rw [hs]; exact hx.lt, ?_⟩, Chx.put (c.ex.chg _) v3 ((c.ex.chg (fun i => i = xb)).trans (Chg.cell (F := fun i => i = xb) Y ⟨xb, xo, none⟩ v3 rfl) (fun _ _ h => h)), fun g hg => (c.base g hg).1⟩
  rcases row_shape c.row with ⟨h1, h2, -⟩ | ⟨g, cap, h1, h2, h3, h4, -⟩
  · exact .inl ⟨h1, List.eq_nil_of_length_eq_zero h2⟩
  · have hne : g ≠ xb := by have := h.lt; omega
    refine .inr ⟨g, 0, cap, h1, h4, hne, by rw [hs]; exact h3, fun i hi => ?_⟩
    have hr := c.row
    rw [h1] at hr
    obtain ⟨e1, e2⟩ := cellsR_at M i hi
    have em : M[i] = at3 M i := by simp [at3, hi]
    rw [em] at e1 e2
    have hb : (Y.setCell ⟨xb, xo, none⟩ v3).heap[g]? = Y.heap[g]? := heap_setCell_other Y ⟨xb, xo, none⟩ g v3 hne
    constructor
    · have := World.ownsRow.cellAt hr (i * 2) (by omega)
      simp only [World.cell?, hb, Nat.zero_add] at this ⊢
      rw [this, e1]
    · have := World.ownsRow.cellAt hr (i * 2 + 1) (by omega)
      simp only [World.cell?, hb, Nat.zero_add] at this ⊢
      rw [this, e2]

theorem rnews {W : World} {g off : Nat} {L : List T3} (hc : Rd W g off L) (K : Nat) (M : List T3) (hM : ∀ j, j < M.length → K + j < L.length ∧ at3 M j = at3 L (K + j)) (ad : Addr) (had : 0 < M.length → ad = ⟨g, off + K * 2, none⟩) :
    ∀ (j : Nat) (u : Value), (cellsR M)[j]? = some u → W.cell? (ad.add j) = some u := by
  intro j u hj
  have hlt : j < M.length * 2 := by
    have := (List.getElem?_eq_some_iff.1 hj).1
    rwa [cellsR_length] at this
  have hj2 : j / 2 < M.length := by omega
  obtain ⟨h1, h2⟩ := hM (j / 2) hj2
  obtain ⟨c1, c2⟩ := hc (K + j / 2) h1
  obtain ⟨e1, e2⟩ := cellsR_at M (j / 2) hj2
  have em : M[j / 2] = at3 M (j / 2) := by simp [at3, hj2]
  rw [em, h2] at e1 e2
  rw [had (by omega), Addr.add_lit]
  rcases (by omega : j = j / 2 * 2 ∨ j = j / 2 * 2 + 1) with e | e
  · rw [← e, hj] at e1
    rw [show off + K * 2 + j = off + (K + j / 2) * 2 by omega, c1, ← e1]
  · rw [← e, hj] at e2
    rw [show off + K * 2 + j = off + (K + j / 2) * 2 + 1 by omega, c2, ← e2]

end Go.Proofs.YtmlobpapjfkbmaaGreat.T13

/- The document's Add. -/
namespace Go.Proofs.YtmlobpapjfkbmaaGreat.T13
open Go.RowKit
set_option linter.unusedVariables false
set_option maxRecDepth 20000
set_option linter.unusedSimpArgs false

/-- Where it goes. -/
def cutT (L : List T3) (x : Int) : Nat → Nat
  | 0 => 0
  | k + 1 => if x < (at3 L k).1 then cutT L x k else k + 1
theorem cutT_le (L : List T3) (x : Int) : ∀ k, cutT L x k ≤ k
  | 0 => Nat.le_refl _
  | k + 1 => by
    unfold cutT
    split
    · have := cutT_le L x k; omega
    · exact Nat.le_refl _
def addR (p : T3) (L : List T3) : List T3 := L.take (cutT L p.1 L.length) ++ p :: L.drop (cutT L p.1 L.length)
def AddR (w : World) (xb xo : Nat) (v : Value) (M : List T3) (e : Ending) (w' : World) : Prop := e = .returned (.tuple #[]) ∧ (∃ v', Rt w' xb xo v' M ∧ NewB w v v') ∧ Chx xb xo w w'

theorem news_takeR {W : World} {g off : Nat} {L : List T3} (hc : Rd W g off L) (K : Nat) :
    ∀ ad, some (⟨g, off, none⟩ : Addr) = some ad → ∀ (j : Nat) (u : Value), (cellsR (L.take K))[j]? = some u → W.cell? (ad.add j) = some u := fun ad had =>
  rnews hc 0 (L.take K) (fun j hj => ⟨by rw [List.length_take] at hj; omega, by rw [List.length_take] at hj; simp [at3, List.getElem?_take, show j < K by omega]⟩) ad (fun _ => by cases had; simp)
theorem news_dropR {W : World} {g off : Nat} {L : List T3} (hc : Rd W g off L) (K vc : Nat) (hv : L.length ≤ vc) :
    ∀ ao, (¬ vc = K → ao = some (⟨g, off + K * 2, none⟩ : Addr)) → ∀ ad, ao = some ad → ∀ (j : Nat) (u : Value), (cellsR (L.drop K))[j]? = some u → W.cell? (ad.add j) = some u := fun ao hao ad had =>
  rnews hc K (L.drop K) (fun j hj => ⟨by rw [List.length_drop] at hj; omega, by simp [at3]⟩) ad (fun h => by
    rw [List.length_drop] at h
    rw [hao (by omega)] at had
    cases had
    rfl)
theorem addR_is {L : List T3} {K : Nat} (x g s : Int) (hK : cutT L x L.length = K) : [] ++ L.take K ++ [(x, g, s)] ++ L.drop K = addR (x, g, s) L := by
  unfold addR
  rw [hK]
  simp

set_option maxRecDepth 20000 in
set_option maxHeartbeats 12800000 in
theorem radd_any {w : World} {xb xo : Nat} {v : Value} {L : List T3} (h : Rt w xb xo v L) (hn : L.length ≤ 200) (x gg s : Int) :
    Calls Tryz.prog 72 #[.pointer (some ⟨xb, xo, none⟩), .int .i64 x, .int .i64 gg] w (AddR w xb xo v (addR (x, gg, s) L)) := by
  obtain ⟨va, vc, rfl⟩ : ∃ va vc, v = .slice va L.length vc := by
    rcases h.row with ⟨rfl, rfl⟩ | ⟨g, off, cap, rfl, -⟩
    · exact ⟨none, 0, rfl⟩
    · exact ⟨_, _, rfl⟩
  have H := Lib.hid h
  have HN : Hid (L.length ≤ 200) := Lib.hid hn
  have hn' : (L.length : Int) ≤ 200 := by omega
  have c0 := h.cell
  have HSH : Hid ((va = none ∧ vc = 0 ∧ L = []) ∨ ∃ g off, va = some ⟨g, off, none⟩ ∧ L.length ≤ vc ∧ ∀ W, Ex w W → Rd W g off L) := Lib.hid (by
    rcases h.row with ⟨h1, h2⟩ | ⟨g, off, cap, h1, h2, -, h4, h5⟩
    · simp only [Value.slice.injEq] at h1; exact .inl ⟨h1.1, h1.2.2, h2⟩
    · simp only [Value.slice.injEq] at h1; exact .inr ⟨g, off, h1.1, by omega, fun W hW => h5.ex h4 hW⟩)
  clear h
  go_enter Tryz.func72, Tryz.ntmps72
  go_wp2_with fail
  go_loopw [6] (fun jv ws => ∃ j : Nat, j ≤ L.length ∧ jv = .int .i64 j ∧ cutT L x j = cutT L x L.length ∧ w = ws) (fun jv _ => (intOf jv).toNat)
  case atStart => exact ⟨L.length, Nat.le_refl _, rfl, rfl, rfl⟩
  case round =>
    obtain ⟨j, hj, rfl, hcut, rfl⟩ := hrel
    have HC := Lib.hid hcut
    clear hcut
    cases j with
    | zero =>
      rw [show ((0 : Nat) : Int) = 0 from rfl]
      go_upto_region 3 with fail
      have CX := Lib.hid (fun W (hW : Ex w.drew W) => (H.out.ex ((ex_drw w).trans hW)).cell)
      have R0 := Lib.hid (H.out.ex (ex_drw w))
      have HXX := Lib.hid (ex_drw w)
      have HKI : Hid (cutT L x L.length = 0) := Lib.hid HC.out.symm
      clear c0 HC
      rcases HSH.out with ⟨rfl, rfl, rfl⟩ | ⟨g, off, rfl, hvc, hrd⟩
      · clear HSH
        rw [show ([] : List T3).length = 0 from rfl]
        refine wp_region_last (S := fun w' => Ex w.drew w') 23 24 (by kernel_rfl) (by kernel_rfl) (by kernel_rfl) (Ex.refl _) (fun hHeld => ?_)
        have XD0 := Lib.hid (Ex.refl w.drew)
        generalize w.drew = Y0 at *
        refine heldL_take (i := 0) (v := ?_) rfl (by kernel_rfl) (by kernel_rfl) (by kernel_rfl) (by kernel_rfl) (fun _ _ _ h => h) (Or.inl ⟨by rfl, ?_⟩) (by assumption) ?_
        rotate_left
        · intro w hSw; (try dsimp only at hSw); have c0 := CX.out w hSw; go_simp; try with_reducible rfl
        try simp only [Act.put, List.setIfInBounds_toArray, List.set_cons_zero, List.set_cons_succ]
        refine heldL_take (i := 2) (v := ?_) rfl (by kernel_rfl) (by kernel_rfl) (by kernel_rfl) (by kernel_rfl) (fun _ _ _ h => h) (Or.inl ⟨by rfl, ?_⟩) (by assumption) ?_
        rotate_left
        · intro w hSw; (try dsimp only at hSw); have c0 := CX.out w hSw; go_simp; try with_reducible rfl
        try simp only [Act.put, List.setIfInBounds_toArray, List.set_cons_zero, List.set_cons_succ]
        refine heldL_take (i := 3) (v := ?_) rfl (by kernel_rfl) (by kernel_rfl) (by kernel_rfl) (by kernel_rfl) (fun _ _ _ h => h) (Or.inl ⟨by rfl, ?_⟩) (by assumption) ?_
        rotate_left
        · intro w hSw; (try dsimp only at hSw); have c0 := CX.out w hSw; go_simp; try with_reducible rfl
        try simp only [Act.put, List.setIfInBounds_toArray, List.set_cons_zero, List.set_cons_succ]
        refine heldL_take (i := 4) (v := ?_) rfl (by kernel_rfl) (by kernel_rfl) (by kernel_rfl) (by kernel_rfl) (fun _ _ _ h => h) (Or.inl ⟨by rfl, ?_⟩) (by assumption) ?_
        rotate_left
        · intro w hSw; (try dsimp only at hSw); have c0 := CX.out w hSw; go_simp; try with_reducible rfl
        try simp only [Act.put, List.setIfInBounds_toArray, List.set_cons_zero, List.set_cons_succ]
        refine heldL_take (i := 5) (v := ?_) rfl (by kernel_rfl) (by kernel_rfl) (by kernel_rfl) (by kernel_rfl) (fun _ _ _ h => h) (Or.inl ⟨by rfl, ?_⟩) (by assumption) ?_
        rotate_left
        · intro w hSw; (try dsimp only at hSw); have c0 := CX.out w hSw; go_simp; try with_reducible rfl
        try simp only [Act.put, List.setIfInBounds_toArray, List.set_cons_zero, List.set_cons_succ]
        refine heldL_take (i := 6) (v := ?_) rfl (by kernel_rfl) (by kernel_rfl) (by kernel_rfl) (by kernel_rfl) (fun _ _ _ h => h) (Or.inl ⟨by rfl, ?_⟩) (by assumption) ?_
        rotate_left
        · intro w hSw; (try dsimp only at hSw); have c0 := CX.out w hSw; go_simp; try with_reducible rfl
        try simp only [Act.put, List.setIfInBounds_toArray, List.set_cons_zero, List.set_cons_succ]
        refine heldL_take (i := 7) (v := ?_) rfl (by kernel_rfl) (by kernel_rfl) (by kernel_rfl) (by kernel_rfl) (fun _ _ _ h => h) (Or.inl ⟨by rfl, ?_⟩) (by assumption) ?_
        rotate_left
        · intro w hSw; (try dsimp only at hSw); have c0 := CX.out w hSw; go_simp; try with_reducible rfl
        try simp only [Act.put, List.setIfInBounds_toArray, List.set_cons_zero, List.set_cons_succ]
        refine heldL_take (i := 9) (v := ?_) rfl (by kernel_rfl) (by kernel_rfl) (by kernel_rfl) (by kernel_rfl) (fun _ _ _ h => h) (Or.inl ⟨by rfl, ?_⟩) (by assumption) ?_
        rotate_left
        · intro w hSw; (try dsimp only at hSw); have c0 := CX.out w hSw; go_simp; try with_reducible rfl
        try simp only [Act.put, List.setIfInBounds_toArray, List.set_cons_zero, List.set_cons_succ]
        refine heldL_take (i := 10) (v := ?_) rfl (by kernel_rfl) (by kernel_rfl) (by kernel_rfl) (by kernel_rfl) (fun _ _ _ h => h) (Or.inl ⟨by rfl, ?_⟩) (by assumption) ?_
        rotate_left
        · intro w hSw; (try dsimp only at hSw); have c0 := CX.out w hSw; go_simp; try with_reducible rfl
        try simp only [Act.put, List.setIfInBounds_toArray, List.set_cons_zero, List.set_cons_succ]
        refine heldL_take (i := 11) (v := ?_) rfl (by kernel_rfl) (by kernel_rfl) (by kernel_rfl) (by kernel_rfl) (fun _ _ _ h => h) (Or.inl ⟨by rfl, ?_⟩) (by assumption) ?_
        rotate_left
        · intro w hSw; (try dsimp only at hSw); have c0 := CX.out w hSw; go_simp; try with_reducible rfl
        try simp only [Act.put, List.setIfInBounds_toArray, List.set_cons_zero, List.set_cons_succ]
        refine heldL_take (i := 14) (v := ?_) rfl (by kernel_rfl) (by kernel_rfl) (by kernel_rfl) (by kernel_rfl) (fun _ _ _ h => h) (Or.inl ⟨by rfl, ?_⟩) (by assumption) ?_
        rotate_left
        · intro w hSw; (try dsimp only at hSw); have c0 := CX.out w hSw; go_simp; try with_reducible rfl
        try simp only [Act.put, List.setIfInBounds_toArray, List.set_cons_zero, List.set_cons_succ]
        refine heldL_take (i := 15) (v := ?_) rfl (by kernel_rfl) (by kernel_rfl) (by kernel_rfl) (by kernel_rfl) (fun _ _ _ h => h) (Or.inl ⟨by rfl, ?_⟩) (by assumption) ?_
        rotate_left
        · intro w hSw; (try dsimp only at hSw); have c0 := CX.out w hSw; go_simp; try with_reducible rfl
        try simp only [Act.put, List.setIfInBounds_toArray, List.set_cons_zero, List.set_cons_succ]
        refine heldL_take (i := 16) (v := ?_) rfl (by kernel_rfl) (by kernel_rfl) (by kernel_rfl) (by kernel_rfl) (fun _ _ _ h => h) (Or.inl ⟨by rfl, ?_⟩) (by assumption) ?_
        rotate_left
        · intro w hSw; (try dsimp only at hSw); have c0 := CX.out w hSw; go_simp; try with_reducible rfl
        try simp only [Act.put, List.setIfInBounds_toArray, List.set_cons_zero, List.set_cons_succ]
        refine heldL_take (i := 17) (v := ?_) rfl (by kernel_rfl) (by kernel_rfl) (by kernel_rfl) (by kernel_rfl) (fun _ _ _ h => h) (Or.inl ⟨by rfl, ?_⟩) (by assumption) ?_
        rotate_left
        · intro w hSw; (try dsimp only at hSw); have c0 := CX.out w hSw; go_simp; try with_reducible rfl
        try simp only [Act.put, List.setIfInBounds_toArray, List.set_cons_zero, List.set_cons_succ]
        refine heldL_take (i := 18) (v := ?_) rfl (by kernel_rfl) (by kernel_rfl) (by kernel_rfl) (by kernel_rfl) (fun _ _ _ h => h) (Or.inl ⟨by rfl, ?_⟩) (by assumption) ?_
        rotate_left
        · intro w hSw; (try dsimp only at hSw); have c0 := CX.out w hSw; go_simp; try with_reducible rfl
        try simp only [Act.put, List.setIfInBounds_toArray, List.set_cons_zero, List.set_cons_succ]
        refine heldL_take (i := 19) (v := ?_) rfl (by kernel_rfl) (by kernel_rfl) (by kernel_rfl) (by kernel_rfl) (fun _ _ _ h => h) (Or.inl ⟨by rfl, ?_⟩) (by assumption) ?_
        rotate_left
        · intro w hSw; (try dsimp only at hSw); have c0 := CX.out w hSw; go_simp; try with_reducible rfl
        try simp only [Act.put, List.setIfInBounds_toArray, List.set_cons_zero, List.set_cons_succ]
        refine heldL_ready (rs := [1, 12]) (by kernel_rfl) (by simp) ?_
        refine AllL.cons rfl (fun K hK => ?_) (AllL.cons rfl (fun K hK => ?_) AllL.nil)
        go_simp
        have hx := (XD0.out.trans (Ex.made Y0 (.cells #[] 111)))
        refine hK.out _ _ (fun _ => hx) (fun _ => ?_)
        clear hK K
        try simp only [Act.put, List.setIfInBounds_toArray, List.set_cons_zero, List.set_cons_succ]
        have hc := CT.lit XD0.out
        obtain ⟨e0, he0⟩ : ∃ e0, Y0.heap.size = e0 := ⟨_, rfl⟩
        rw [he0] at hc ⊢
        obtain ⟨v0, hv0⟩ : ∃ v0, Value.slice (some ⟨e0, 0, none⟩) 0 0 = v0 := ⟨_, rfl⟩
        have hne : ∀ q, v0.ownBlock = some q → q = e0 := fun q hq => by rw [← hv0] at hq; cases hq; rfl
        rw [hv0] at hc ⊢
        obtain ⟨Y1, hY⟩ : ∃ Y, Y = Y0.alloc (.cells #[] 111) := ⟨_, rfl⟩
        rw [← hY] at hx hc ⊢
        have hHeld := hx
        have XD1 := Lib.hid hx
        have C1 := Lib.hid hc
        clear hY hx hc hv0 hne he0
        refine heldL_ready (rs := [8, 12]) (by kernel_rfl) (by simp) ?_
        refine AllL.cons rfl (fun K hK => ?_) (AllL.cons rfl (fun K hK => ?_) AllL.nil)
        refine step_append_ct rfl (.tmp 30) (.tmp 36) 41 rfl C1.out (by rfl) _ _ _ (by rfl) (([] : List T3).take 0) (by simp <;> omega) ?_ ((fun ad had => by cases had)) (by simp <;> omega) ?_
        · intro hao; exact ⟨rfl, rfl⟩
        intro v1 Y2 hc hg hat
        refine hK.out _ _ (fun _ => hc.ex) (fun _ => ?_)
        clear hK K
        try simp only [Act.put, List.setIfInBounds_toArray, List.set_cons_zero, List.set_cons_succ]
        have hHeld := hc.ex
        have XD2 := Lib.hid hc.ex
        have C2 := Lib.hid hc
        clear hc hg hat
        refine heldL_ready (rs := [12]) (by kernel_rfl) (by simp) ?_
        refine AllL.cons rfl (fun K hK => ?_) AllL.nil
        go_simp
        have hx := (XD2.out.trans (Ex.made Y2 (.cells #[.int .i64 x, .int .i64 gg] 111)))
        refine hK.out _ _ (fun _ => hx) (fun _ => ?_)
        clear hK K
        try simp only [Act.put, List.setIfInBounds_toArray, List.set_cons_zero, List.set_cons_succ]
        have hb := Box.fresh Y2 #[.int .i64 x, .int .i64 gg] 111
        have hc := C2.out.made (.cells #[.int .i64 x, .int .i64 gg] 111)
        have hne := C2.out.new
        obtain ⟨nb, hnb⟩ : ∃ b, Y2.heap.size = b := ⟨_, rfl⟩
        rw [hnb] at hb hne ⊢
        obtain ⟨Y3, hY⟩ : ∃ Y, Y = Y2.alloc (.cells #[.int .i64 x, .int .i64 gg] 111) := ⟨_, rfl⟩
        rw [← hY] at hx hb hc ⊢
        have hHeld := hx
        have XD3 := Lib.hid hx
        have B3 := Lib.hid hb
        have C3 := Lib.hid hc
        have NE3 := Lib.hid hne
        clear hc hne
        clear hY hnb hx hb
        refine heldL_ready (rs := [13]) (by kernel_rfl) (by simp) ?_
        refine AllL.cons rfl (fun K hK => ?_) AllL.nil
        refine step_append_ct rfl (.tmp 37) (.tmp 41) 41 rfl C3.out (by rfl) _ _ _ (by rfl) ([(x, gg, s)]) (by simp <;> omega) ?_ ((fun ad had => by cases had; exact box_news2 B3.out)) (by simp <;> omega) ?_
        · intro hao; first | cases hao | (split at hao <;> cases hao) | (simp at hao; try omega)
        intro v2 Y4 hc hg hat
        refine hK.out _ _ (fun _ => hc.ex) (fun _ => ?_)
        clear hK K
        try simp only [Act.put, List.setIfInBounds_toArray, List.set_cons_zero, List.set_cons_succ]
        have hHeld := hc.ex
        have XD4 := Lib.hid hc.ex
        have C4 := Lib.hid hc
        clear hc hg hat
        refine heldL_ready (rs := [20]) (by kernel_rfl) (by simp) ?_
        refine AllL.cons rfl (fun K hK => ?_) AllL.nil
        refine step_append_ct rfl (.tmp 42) (.tmp 48) 41 rfl C4.out (by rfl) _ _ _ (by rfl) (([] : List T3).drop 0) (by simp <;> omega) ?_ ((fun ad had => by cases had)) (by simp <;> omega) ?_
        · intro hao; exact ⟨rfl, rfl⟩
        intro v3 Y5 hc hg hat
        refine hK.out _ _ (fun _ => hc.ex) (fun _ => ?_)
        clear hK K
        try simp only [Act.put, List.setIfInBounds_toArray, List.set_cons_zero, List.set_cons_succ]
        have hHeld := hc.ex
        have XD5 := Lib.hid hc.ex
        have C5 := Lib.hid hc
        clear hc hg hat
        refine heldL_take (i := 21) (v := ?_) rfl (by kernel_rfl) (by kernel_rfl) (by kernel_rfl) (by kernel_rfl) (fun _ _ _ h => h) (Or.inl ⟨by rfl, ?_⟩) (by assumption) ?_
        rotate_left
        · intro w hSw; (try dsimp only at hSw); have c0 := CX.out w hSw; go_simp; try with_reducible rfl
        try simp only [Act.put, List.setIfInBounds_toArray, List.set_cons_zero, List.set_cons_succ]
        refine heldL_take (i := 22) (v := ?_) rfl (by kernel_rfl) (by kernel_rfl) (by kernel_rfl) (by kernel_rfl) (fun _ _ _ h => h) (Or.inl ⟨by rfl, ?_⟩) (by assumption) ?_
        rotate_left
        · intro w hSw; (try dsimp only at hSw); have c0 := CX.out w hSw; go_simp; try with_reducible rfl
        try simp only [Act.put, List.setIfInBounds_toArray, List.set_cons_zero, List.set_cons_succ]
        obtain ⟨a3, n3, c3, rfl⟩ := C5.out.shape
        have s0 := (R0.out.ex XD5.out).cell
        have s1 := (R0.out.ex XD5.out).soft
        refine heldL_store_ct 51 49 (by kernel_rfl) (by kernel_rfl) (by kernel_rfl) (by rfl) (by rfl) s0 s1 ?_
        clear s0 s1
        have CE := Lib.hid (rt_store R0.out C5.out)
        obtain ⟨Z, hZ⟩ : ∃ Z, Z = Y5.setCell ⟨xb, xo, none⟩ (.slice a3 n3 c3) := ⟨_, rfl⟩
        rw [← hZ] at CE ⊢
        clear hZ
        rotate_left
        go_simp
        have hx := (XD1.out.trans (Ex.made Y1 (.cells #[.int .i64 x, .int .i64 gg] 111)))
        refine hK.out _ _ (fun _ => hx) (fun _ => ?_)
        clear hK K
        try simp only [Act.put, List.setIfInBounds_toArray, List.set_cons_zero, List.set_cons_succ]
        have hb := Box.fresh Y1 #[.int .i64 x, .int .i64 gg] 111
        have hc := C1.out.made (.cells #[.int .i64 x, .int .i64 gg] 111)
        have hne := C1.out.new
        obtain ⟨nb, hnb⟩ : ∃ b, Y1.heap.size = b := ⟨_, rfl⟩
        rw [hnb] at hb hne ⊢
        obtain ⟨Y2, hY⟩ : ∃ Y, Y = Y1.alloc (.cells #[.int .i64 x, .int .i64 gg] 111) := ⟨_, rfl⟩
        rw [← hY] at hx hb hc ⊢
        have hHeld := hx
        have XD2 := Lib.hid hx
        have B2 := Lib.hid hb
        have C2 := Lib.hid hc
        have NE2 := Lib.hid hne
        clear hc hne
        clear hY hnb hx hb
        refine heldL_ready (rs := [8]) (by kernel_rfl) (by simp) ?_
        refine AllL.cons rfl (fun K hK => ?_) AllL.nil
        refine step_append_ct rfl (.tmp 30) (.tmp 36) 41 rfl C2.out (by rfl) _ _ _ (by rfl) (([] : List T3).take 0) (by simp <;> omega) ?_ ((fun ad had => by cases had)) (by simp <;> omega) ?_
        · intro hao; exact ⟨rfl, rfl⟩
        intro v1 Y3 hc hg hat
        refine hK.out _ _ (fun _ => hc.ex) (fun _ => ?_)
        clear hK K
        try simp only [Act.put, List.setIfInBounds_toArray, List.set_cons_zero, List.set_cons_succ]
        have hHeld := hc.ex
        have XD3 := Lib.hid hc.ex
        have C3 := Lib.hid hc
        have B3 := Lib.hid (box_far B2.out NE2.out hg)
        have NE3 := Lib.hid (own_far B2.out NE2.out hat)
        clear hc hg hat
        refine heldL_ready (rs := [13]) (by kernel_rfl) (by simp) ?_
        refine AllL.cons rfl (fun K hK => ?_) AllL.nil
        refine step_append_ct rfl (.tmp 37) (.tmp 41) 41 rfl C3.out (by rfl) _ _ _ (by rfl) ([(x, gg, s)]) (by simp <;> omega) ?_ ((fun ad had => by cases had; exact box_news2 B3.out)) (by simp <;> omega) ?_
        · intro hao; first | cases hao | (split at hao <;> cases hao) | (simp at hao; try omega)
        intro v2 Y4 hc hg hat
        refine hK.out _ _ (fun _ => hc.ex) (fun _ => ?_)
        clear hK K
        try simp only [Act.put, List.setIfInBounds_toArray, List.set_cons_zero, List.set_cons_succ]
        have hHeld := hc.ex
        have XD4 := Lib.hid hc.ex
        have C4 := Lib.hid hc
        clear hc hg hat
        refine heldL_ready (rs := [20]) (by kernel_rfl) (by simp) ?_
        refine AllL.cons rfl (fun K hK => ?_) AllL.nil
        refine step_append_ct rfl (.tmp 42) (.tmp 48) 41 rfl C4.out (by rfl) _ _ _ (by rfl) (([] : List T3).drop 0) (by simp <;> omega) ?_ ((fun ad had => by cases had)) (by simp <;> omega) ?_
        · intro hao; exact ⟨rfl, rfl⟩
        intro v3 Y5 hc hg hat
        refine hK.out _ _ (fun _ => hc.ex) (fun _ => ?_)
        clear hK K
        try simp only [Act.put, List.setIfInBounds_toArray, List.set_cons_zero, List.set_cons_succ]
        have hHeld := hc.ex
        have XD5 := Lib.hid hc.ex
        have C5 := Lib.hid hc
        clear hc hg hat
        refine heldL_take (i := 21) (v := ?_) rfl (by kernel_rfl) (by kernel_rfl) (by kernel_rfl) (by kernel_rfl) (fun _ _ _ h => h) (Or.inl ⟨by rfl, ?_⟩) (by assumption) ?_
        rotate_left
        · intro w hSw; (try dsimp only at hSw); have c0 := CX.out w hSw; go_simp; try with_reducible rfl
        try simp only [Act.put, List.setIfInBounds_toArray, List.set_cons_zero, List.set_cons_succ]
        refine heldL_take (i := 22) (v := ?_) rfl (by kernel_rfl) (by kernel_rfl) (by kernel_rfl) (by kernel_rfl) (fun _ _ _ h => h) (Or.inl ⟨by rfl, ?_⟩) (by assumption) ?_
        rotate_left
        · intro w hSw; (try dsimp only at hSw); have c0 := CX.out w hSw; go_simp; try with_reducible rfl
        try simp only [Act.put, List.setIfInBounds_toArray, List.set_cons_zero, List.set_cons_succ]
        obtain ⟨a3, n3, c3, rfl⟩ := C5.out.shape
        have s0 := (R0.out.ex XD5.out).cell
        have s1 := (R0.out.ex XD5.out).soft
        refine heldL_store_ct 51 49 (by kernel_rfl) (by kernel_rfl) (by kernel_rfl) (by rfl) (by rfl) s0 s1 ?_
        clear s0 s1
        have CE := Lib.hid (rt_store R0.out C5.out)
        obtain ⟨Z, hZ⟩ : ∃ Z, Z = Y5.setCell ⟨xb, xo, none⟩ (.slice a3 n3 c3) := ⟨_, rfl⟩
        rw [← hZ] at CE ⊢
        clear hZ
        rotate_left
        go_simp
        have hx := (XD0.out.trans (Ex.made Y0 (.cells #[.int .i64 x, .int .i64 gg] 111)))
        refine hK.out _ _ (fun _ => hx) (fun _ => ?_)
        clear hK K
        try simp only [Act.put, List.setIfInBounds_toArray, List.set_cons_zero, List.set_cons_succ]
        have hb := Box.fresh Y0 #[.int .i64 x, .int .i64 gg] 111
        obtain ⟨nb, hnb⟩ : ∃ b, Y0.heap.size = b := ⟨_, rfl⟩
        rw [hnb] at hb ⊢
        obtain ⟨Y1, hY⟩ : ∃ Y, Y = Y0.alloc (.cells #[.int .i64 x, .int .i64 gg] 111) := ⟨_, rfl⟩
        rw [← hY] at hx hb ⊢
        have hHeld := hx
        have XD1 := Lib.hid hx
        have B1 := Lib.hid hb
        clear hY hnb hx hb
        refine heldL_ready (rs := [1]) (by kernel_rfl) (by simp) ?_
        refine AllL.cons rfl (fun K hK => ?_) AllL.nil
        go_simp
        have hx := (XD1.out.trans (Ex.made Y1 (.cells #[] 111)))
        refine hK.out _ _ (fun _ => hx) (fun _ => ?_)
        clear hK K
        try simp only [Act.put, List.setIfInBounds_toArray, List.set_cons_zero, List.set_cons_succ]
        have hc := CT.lit XD1.out
        have hb := (B1.out.ex (Ex.made Y1 (.cells #[] 111)))
        have hlt := B1.out.lt
        obtain ⟨e0, he0⟩ : ∃ e0, Y1.heap.size = e0 := ⟨_, rfl⟩
        rw [he0] at hc ⊢
        rw [he0] at hlt
        obtain ⟨v0, hv0⟩ : ∃ v0, Value.slice (some ⟨e0, 0, none⟩) 0 0 = v0 := ⟨_, rfl⟩
        have hne : ∀ q, v0.ownBlock = some q → q = e0 := fun q hq => by rw [← hv0] at hq; cases hq; rfl
        rw [hv0] at hc ⊢
        obtain ⟨Y2, hY⟩ : ∃ Y, Y = Y1.alloc (.cells #[] 111) := ⟨_, rfl⟩
        rw [← hY] at hx hc hb ⊢
        have hHeld := hx
        have XD2 := Lib.hid hx
        have C2 := Lib.hid hc
        have B2 := Lib.hid hb
        have NE2 : Hid (v0.ownBlock ≠ some nb) := Lib.hid (fun e => by have := hne nb e; omega)
        clear hb hlt
        clear hY hx hc hv0 hne he0
        refine heldL_ready (rs := [8]) (by kernel_rfl) (by simp) ?_
        refine AllL.cons rfl (fun K hK => ?_) AllL.nil
        refine step_append_ct rfl (.tmp 30) (.tmp 36) 41 rfl C2.out (by rfl) _ _ _ (by rfl) (([] : List T3).take 0) (by simp <;> omega) ?_ ((fun ad had => by cases had)) (by simp <;> omega) ?_
        · intro hao; exact ⟨rfl, rfl⟩
        intro v1 Y3 hc hg hat
        refine hK.out _ _ (fun _ => hc.ex) (fun _ => ?_)
        clear hK K
        try simp only [Act.put, List.setIfInBounds_toArray, List.set_cons_zero, List.set_cons_succ]
        have hHeld := hc.ex
        have XD3 := Lib.hid hc.ex
        have C3 := Lib.hid hc
        have B3 := Lib.hid (box_far B2.out NE2.out hg)
        have NE3 := Lib.hid (own_far B2.out NE2.out hat)
        clear hc hg hat
        refine heldL_ready (rs := [13]) (by kernel_rfl) (by simp) ?_
        refine AllL.cons rfl (fun K hK => ?_) AllL.nil
        refine step_append_ct rfl (.tmp 37) (.tmp 41) 41 rfl C3.out (by rfl) _ _ _ (by rfl) ([(x, gg, s)]) (by simp <;> omega) ?_ ((fun ad had => by cases had; exact box_news2 B3.out)) (by simp <;> omega) ?_
        · intro hao; first | cases hao | (split at hao <;> cases hao) | (simp at hao; try omega)
        intro v2 Y4 hc hg hat
        refine hK.out _ _ (fun _ => hc.ex) (fun _ => ?_)
        clear hK K
        try simp only [Act.put, List.setIfInBounds_toArray, List.set_cons_zero, List.set_cons_succ]
        have hHeld := hc.ex
        have XD4 := Lib.hid hc.ex
        have C4 := Lib.hid hc
        clear hc hg hat
        refine heldL_ready (rs := [20]) (by kernel_rfl) (by simp) ?_
        refine AllL.cons rfl (fun K hK => ?_) AllL.nil
        refine step_append_ct rfl (.tmp 42) (.tmp 48) 41 rfl C4.out (by rfl) _ _ _ (by rfl) (([] : List T3).drop 0) (by simp <;> omega) ?_ ((fun ad had => by cases had)) (by simp <;> omega) ?_
        · intro hao; exact ⟨rfl, rfl⟩
        intro v3 Y5 hc hg hat
        refine hK.out _ _ (fun _ => hc.ex) (fun _ => ?_)
        clear hK K
        try simp only [Act.put, List.setIfInBounds_toArray, List.set_cons_zero, List.set_cons_succ]
        have hHeld := hc.ex
        have XD5 := Lib.hid hc.ex
        have C5 := Lib.hid hc
        clear hc hg hat
        refine heldL_take (i := 21) (v := ?_) rfl (by kernel_rfl) (by kernel_rfl) (by kernel_rfl) (by kernel_rfl) (fun _ _ _ h => h) (Or.inl ⟨by rfl, ?_⟩) (by assumption) ?_
        rotate_left
        · intro w hSw; (try dsimp only at hSw); have c0 := CX.out w hSw; go_simp; try with_reducible rfl
        try simp only [Act.put, List.setIfInBounds_toArray, List.set_cons_zero, List.set_cons_succ]
        refine heldL_take (i := 22) (v := ?_) rfl (by kernel_rfl) (by kernel_rfl) (by kernel_rfl) (by kernel_rfl) (fun _ _ _ h => h) (Or.inl ⟨by rfl, ?_⟩) (by assumption) ?_
        rotate_left
        · intro w hSw; (try dsimp only at hSw); have c0 := CX.out w hSw; go_simp; try with_reducible rfl
        try simp only [Act.put, List.setIfInBounds_toArray, List.set_cons_zero, List.set_cons_succ]
        obtain ⟨a3, n3, c3, rfl⟩ := C5.out.shape
        have s0 := (R0.out.ex XD5.out).cell
        have s1 := (R0.out.ex XD5.out).soft
        refine heldL_store_ct 51 49 (by kernel_rfl) (by kernel_rfl) (by kernel_rfl) (by rfl) (by rfl) s0 s1 ?_
        clear s0 s1
        have CE := Lib.hid (rt_store R0.out C5.out)
        obtain ⟨Z, hZ⟩ : ∃ Z, Z = Y5.setCell ⟨xb, xo, none⟩ (.slice a3 n3 c3) := ⟨_, rfl⟩
        rw [← hZ] at CE ⊢
        clear hZ
        rotate_left
        all_goals
          clear CX
          go_wp2_with fail
          all_goals exact Go.Great.bodyPost_end0 rfl rfl ⟨rfl, ⟨_, addR_is (L := []) x gg s HKI.out ▸ CE.out.1, fun g hg => .inr (Nat.le_trans HXX.out.size (CE.out.2.2 g hg))⟩, Chx.exl HXX.out CE.out.2.1⟩
      · have hvc' : (L.length : Int) ≤ (vc : Int) := by omega
        have hkl : 0 ≤ L.length := Nat.zero_le _
        have hki : (0 : Int) ≤ (L.length : Int) := by omega
        have hkc : (0 : Int) ≤ (vc : Int) := by omega
        have NW1 := Lib.hid (fun W (hW : Ex w.drew W) => news_takeR (hrd W ((ex_drw w).trans hW)) 0)
        have NW3 := Lib.hid (fun W (hW : Ex w.drew W) => news_dropR (hrd W ((ex_drw w).trans hW)) 0 vc hvc)
        clear hrd HSH
        refine wp_region_last (S := fun w' => Ex w.drew w') 23 24 (by kernel_rfl) (by kernel_rfl) (by kernel_rfl) (Ex.refl _) (fun hHeld => ?_)
        have XD0 := Lib.hid (Ex.refl w.drew)
        generalize w.drew = Y0 at *
        refine heldL_take (i := 0) (v := ?_) rfl (by kernel_rfl) (by kernel_rfl) (by kernel_rfl) (by kernel_rfl) (fun _ _ _ h => h) (Or.inl ⟨by rfl, ?_⟩) (by assumption) ?_
        rotate_left
        · intro w hSw; (try dsimp only at hSw); have c0 := CX.out w hSw; go_simp; try with_reducible rfl
        try simp only [Act.put, List.setIfInBounds_toArray, List.set_cons_zero, List.set_cons_succ]
        refine heldL_take (i := 2) (v := ?_) rfl (by kernel_rfl) (by kernel_rfl) (by kernel_rfl) (by kernel_rfl) (fun _ _ _ h => h) (Or.inl ⟨by rfl, ?_⟩) (by assumption) ?_
        rotate_left
        · intro w hSw; (try dsimp only at hSw); have c0 := CX.out w hSw; go_simp; try with_reducible rfl
        try simp only [Act.put, List.setIfInBounds_toArray, List.set_cons_zero, List.set_cons_succ]
        refine heldL_take (i := 3) (v := ?_) rfl (by kernel_rfl) (by kernel_rfl) (by kernel_rfl) (by kernel_rfl) (fun _ _ _ h => h) (Or.inl ⟨by rfl, ?_⟩) (by assumption) ?_
        rotate_left
        · intro w hSw; (try dsimp only at hSw); have c0 := CX.out w hSw; go_simp; try with_reducible rfl
        try simp only [Act.put, List.setIfInBounds_toArray, List.set_cons_zero, List.set_cons_succ]
        refine heldL_take (i := 4) (v := ?_) rfl (by kernel_rfl) (by kernel_rfl) (by kernel_rfl) (by kernel_rfl) (fun _ _ _ h => h) (Or.inl ⟨by rfl, ?_⟩) (by assumption) ?_
        rotate_left
        · intro w hSw; (try dsimp only at hSw); have c0 := CX.out w hSw; go_simp; try with_reducible rfl
        try simp only [Act.put, List.setIfInBounds_toArray, List.set_cons_zero, List.set_cons_succ]
        refine heldL_take (i := 5) (v := ?_) rfl (by kernel_rfl) (by kernel_rfl) (by kernel_rfl) (by kernel_rfl) (fun _ _ _ h => h) (Or.inl ⟨by rfl, ?_⟩) (by assumption) ?_
        rotate_left
        · intro w hSw; (try dsimp only at hSw); have c0 := CX.out w hSw; go_simp; try with_reducible rfl
        try simp only [Act.put, List.setIfInBounds_toArray, List.set_cons_zero, List.set_cons_succ]
        refine heldL_take (i := 6) (v := ?_) rfl (by kernel_rfl) (by kernel_rfl) (by kernel_rfl) (by kernel_rfl) (fun _ _ _ h => h) (Or.inl ⟨by rfl, ?_⟩) (by assumption) ?_
        rotate_left
        · intro w hSw; (try dsimp only at hSw); have c0 := CX.out w hSw; go_simp; try with_reducible rfl
        try simp only [Act.put, List.setIfInBounds_toArray, List.set_cons_zero, List.set_cons_succ]
        refine heldL_take (i := 7) (v := ?_) rfl (by kernel_rfl) (by kernel_rfl) (by kernel_rfl) (by kernel_rfl) (fun _ _ _ h => h) (Or.inl ⟨by rfl, ?_⟩) (by assumption) ?_
        rotate_left
        · intro w hSw; (try dsimp only at hSw); have c0 := CX.out w hSw; go_simp; try with_reducible rfl
        try simp only [Act.put, List.setIfInBounds_toArray, List.set_cons_zero, List.set_cons_succ]
        refine heldL_take (i := 9) (v := ?_) rfl (by kernel_rfl) (by kernel_rfl) (by kernel_rfl) (by kernel_rfl) (fun _ _ _ h => h) (Or.inl ⟨by rfl, ?_⟩) (by assumption) ?_
        rotate_left
        · intro w hSw; (try dsimp only at hSw); have c0 := CX.out w hSw; go_simp; try with_reducible rfl
        try simp only [Act.put, List.setIfInBounds_toArray, List.set_cons_zero, List.set_cons_succ]
        refine heldL_take (i := 10) (v := ?_) rfl (by kernel_rfl) (by kernel_rfl) (by kernel_rfl) (by kernel_rfl) (fun _ _ _ h => h) (Or.inl ⟨by rfl, ?_⟩) (by assumption) ?_
        rotate_left
        · intro w hSw; (try dsimp only at hSw); have c0 := CX.out w hSw; go_simp; try with_reducible rfl
        try simp only [Act.put, List.setIfInBounds_toArray, List.set_cons_zero, List.set_cons_succ]
        refine heldL_take (i := 11) (v := ?_) rfl (by kernel_rfl) (by kernel_rfl) (by kernel_rfl) (by kernel_rfl) (fun _ _ _ h => h) (Or.inl ⟨by rfl, ?_⟩) (by assumption) ?_
        rotate_left
        · intro w hSw; (try dsimp only at hSw); have c0 := CX.out w hSw; go_simp; try with_reducible rfl
        try simp only [Act.put, List.setIfInBounds_toArray, List.set_cons_zero, List.set_cons_succ]
        refine heldL_take (i := 14) (v := ?_) rfl (by kernel_rfl) (by kernel_rfl) (by kernel_rfl) (by kernel_rfl) (fun _ _ _ h => h) (Or.inl ⟨by rfl, ?_⟩) (by assumption) ?_
        rotate_left
        · intro w hSw; (try dsimp only at hSw); have c0 := CX.out w hSw; go_simp; try with_reducible rfl
        try simp only [Act.put, List.setIfInBounds_toArray, List.set_cons_zero, List.set_cons_succ]
        refine heldL_take (i := 15) (v := ?_) rfl (by kernel_rfl) (by kernel_rfl) (by kernel_rfl) (by kernel_rfl) (fun _ _ _ h => h) (Or.inl ⟨by rfl, ?_⟩) (by assumption) ?_
        rotate_left
        · intro w hSw; (try dsimp only at hSw); have c0 := CX.out w hSw; go_simp; try with_reducible rfl
        try simp only [Act.put, List.setIfInBounds_toArray, List.set_cons_zero, List.set_cons_succ]
        refine heldL_take (i := 16) (v := ?_) rfl (by kernel_rfl) (by kernel_rfl) (by kernel_rfl) (by kernel_rfl) (fun _ _ _ h => h) (Or.inl ⟨by rfl, ?_⟩) (by assumption) ?_
        rotate_left
        · intro w hSw; (try dsimp only at hSw); have c0 := CX.out w hSw; go_simp; try with_reducible rfl
        try simp only [Act.put, List.setIfInBounds_toArray, List.set_cons_zero, List.set_cons_succ]
        refine heldL_take (i := 17) (v := ?_) rfl (by kernel_rfl) (by kernel_rfl) (by kernel_rfl) (by kernel_rfl) (fun _ _ _ h => h) (Or.inl ⟨by rfl, ?_⟩) (by assumption) ?_
        rotate_left
        · intro w hSw; (try dsimp only at hSw); have c0 := CX.out w hSw; go_simp; try with_reducible rfl
        try simp only [Act.put, List.setIfInBounds_toArray, List.set_cons_zero, List.set_cons_succ]
        refine heldL_take (i := 18) (v := ?_) rfl (by kernel_rfl) (by kernel_rfl) (by kernel_rfl) (by kernel_rfl) (fun _ _ _ h => h) (Or.inl ⟨by rfl, ?_⟩) (by assumption) ?_
        rotate_left
        · intro w hSw; (try dsimp only at hSw); have c0 := CX.out w hSw; go_simp; try with_reducible rfl
        try simp only [Act.put, List.setIfInBounds_toArray, List.set_cons_zero, List.set_cons_succ]
        refine heldL_take (i := 19) (v := ?_) rfl (by kernel_rfl) (by kernel_rfl) (by kernel_rfl) (by kernel_rfl) (fun _ _ _ h => h) (Or.inl ⟨by rfl, ?_⟩) (by assumption) ?_
        rotate_left
        · intro w hSw; (try dsimp only at hSw); have c0 := CX.out w hSw; go_simp; try with_reducible rfl
        try simp only [Act.put, List.setIfInBounds_toArray, List.set_cons_zero, List.set_cons_succ]
        refine heldL_ready (rs := [1, 12]) (by kernel_rfl) (by simp) ?_
        refine AllL.cons rfl (fun K hK => ?_) (AllL.cons rfl (fun K hK => ?_) AllL.nil)
        go_simp
        have hx := (XD0.out.trans (Ex.made Y0 (.cells #[] 111)))
        refine hK.out _ _ (fun _ => hx) (fun _ => ?_)
        clear hK K
        try simp only [Act.put, List.setIfInBounds_toArray, List.set_cons_zero, List.set_cons_succ]
        have hc := CT.lit XD0.out
        obtain ⟨e0, he0⟩ : ∃ e0, Y0.heap.size = e0 := ⟨_, rfl⟩
        rw [he0] at hc ⊢
        obtain ⟨v0, hv0⟩ : ∃ v0, Value.slice (some ⟨e0, 0, none⟩) 0 0 = v0 := ⟨_, rfl⟩
        have hne : ∀ q, v0.ownBlock = some q → q = e0 := fun q hq => by rw [← hv0] at hq; cases hq; rfl
        rw [hv0] at hc ⊢
        obtain ⟨Y1, hY⟩ : ∃ Y, Y = Y0.alloc (.cells #[] 111) := ⟨_, rfl⟩
        rw [← hY] at hx hc ⊢
        have hHeld := hx
        have XD1 := Lib.hid hx
        have C1 := Lib.hid hc
        clear hY hx hc hv0 hne he0
        refine heldL_ready (rs := [8, 12]) (by kernel_rfl) (by simp) ?_
        refine AllL.cons rfl (fun K hK => ?_) (AllL.cons rfl (fun K hK => ?_) AllL.nil)
        refine step_append_ct rfl (.tmp 30) (.tmp 36) 41 rfl C1.out (by rfl) _ _ _ (by rfl) (L.take 0) (by simp <;> omega) ?_ (NW1.out Y1 XD1.out) (by simp <;> omega) ?_
        · intro hao; first | cases hao | (split at hao <;> cases hao) | (simp at hao; try omega)
        intro v1 Y2 hc hg hat
        refine hK.out _ _ (fun _ => hc.ex) (fun _ => ?_)
        clear hK K
        try simp only [Act.put, List.setIfInBounds_toArray, List.set_cons_zero, List.set_cons_succ]
        have hHeld := hc.ex
        have XD2 := Lib.hid hc.ex
        have C2 := Lib.hid hc
        clear hc hg hat
        refine heldL_ready (rs := [12]) (by kernel_rfl) (by simp) ?_
        refine AllL.cons rfl (fun K hK => ?_) AllL.nil
        go_simp
        have hx := (XD2.out.trans (Ex.made Y2 (.cells #[.int .i64 x, .int .i64 gg] 111)))
        refine hK.out _ _ (fun _ => hx) (fun _ => ?_)
        clear hK K
        try simp only [Act.put, List.setIfInBounds_toArray, List.set_cons_zero, List.set_cons_succ]
        have hb := Box.fresh Y2 #[.int .i64 x, .int .i64 gg] 111
        have hc := C2.out.made (.cells #[.int .i64 x, .int .i64 gg] 111)
        have hne := C2.out.new
        obtain ⟨nb, hnb⟩ : ∃ b, Y2.heap.size = b := ⟨_, rfl⟩
        rw [hnb] at hb hne ⊢
        obtain ⟨Y3, hY⟩ : ∃ Y, Y = Y2.alloc (.cells #[.int .i64 x, .int .i64 gg] 111) := ⟨_, rfl⟩
        rw [← hY] at hx hb hc ⊢
        have hHeld := hx
        have XD3 := Lib.hid hx
        have B3 := Lib.hid hb
        have C3 := Lib.hid hc
        have NE3 := Lib.hid hne
        clear hc hne
        clear hY hnb hx hb
        refine heldL_ready (rs := [13]) (by kernel_rfl) (by simp) ?_
        refine AllL.cons rfl (fun K hK => ?_) AllL.nil
        refine step_append_ct rfl (.tmp 37) (.tmp 41) 41 rfl C3.out (by rfl) _ _ _ (by rfl) ([(x, gg, s)]) (by simp <;> omega) ?_ ((fun ad had => by cases had; exact box_news2 B3.out)) (by simp <;> omega) ?_
        · intro hao; first | cases hao | (split at hao <;> cases hao) | (simp at hao; try omega)
        intro v2 Y4 hc hg hat
        refine hK.out _ _ (fun _ => hc.ex) (fun _ => ?_)
        clear hK K
        try simp only [Act.put, List.setIfInBounds_toArray, List.set_cons_zero, List.set_cons_succ]
        have hHeld := hc.ex
        have XD4 := Lib.hid hc.ex
        have C4 := Lib.hid hc
        clear hc hg hat
        refine heldL_ready (rs := [20]) (by kernel_rfl) (by simp) ?_
        refine AllL.cons rfl (fun K hK => ?_) AllL.nil
        refine step_append_ct rfl (.tmp 42) (.tmp 48) 41 rfl C4.out (by rfl) _ _ _ (by rfl) (L.drop 0) (by simp <;> omega) ?_ (NW3.out Y4 XD4.out _ (by intro h; first | rfl | simp [h])) (by simp <;> omega) ?_
        · intro hao; first | cases hao | (split at hao <;> cases hao) | (simp at hao; try omega)
        intro v3 Y5 hc hg hat
        refine hK.out _ _ (fun _ => hc.ex) (fun _ => ?_)
        clear hK K
        try simp only [Act.put, List.setIfInBounds_toArray, List.set_cons_zero, List.set_cons_succ]
        have hHeld := hc.ex
        have XD5 := Lib.hid hc.ex
        have C5 := Lib.hid hc
        clear hc hg hat
        refine heldL_take (i := 21) (v := ?_) rfl (by kernel_rfl) (by kernel_rfl) (by kernel_rfl) (by kernel_rfl) (fun _ _ _ h => h) (Or.inl ⟨by rfl, ?_⟩) (by assumption) ?_
        rotate_left
        · intro w hSw; (try dsimp only at hSw); have c0 := CX.out w hSw; go_simp; try with_reducible rfl
        try simp only [Act.put, List.setIfInBounds_toArray, List.set_cons_zero, List.set_cons_succ]
        refine heldL_take (i := 22) (v := ?_) rfl (by kernel_rfl) (by kernel_rfl) (by kernel_rfl) (by kernel_rfl) (fun _ _ _ h => h) (Or.inl ⟨by rfl, ?_⟩) (by assumption) ?_
        rotate_left
        · intro w hSw; (try dsimp only at hSw); have c0 := CX.out w hSw; go_simp; try with_reducible rfl
        try simp only [Act.put, List.setIfInBounds_toArray, List.set_cons_zero, List.set_cons_succ]
        obtain ⟨a3, n3, c3, rfl⟩ := C5.out.shape
        have s0 := (R0.out.ex XD5.out).cell
        have s1 := (R0.out.ex XD5.out).soft
        refine heldL_store_ct 51 49 (by kernel_rfl) (by kernel_rfl) (by kernel_rfl) (by rfl) (by rfl) s0 s1 ?_
        clear s0 s1
        have CE := Lib.hid (rt_store R0.out C5.out)
        obtain ⟨Z, hZ⟩ : ∃ Z, Z = Y5.setCell ⟨xb, xo, none⟩ (.slice a3 n3 c3) := ⟨_, rfl⟩
        rw [← hZ] at CE ⊢
        clear hZ
        rotate_left
        go_simp
        have hx := (XD1.out.trans (Ex.made Y1 (.cells #[.int .i64 x, .int .i64 gg] 111)))
        refine hK.out _ _ (fun _ => hx) (fun _ => ?_)
        clear hK K
        try simp only [Act.put, List.setIfInBounds_toArray, List.set_cons_zero, List.set_cons_succ]
        have hb := Box.fresh Y1 #[.int .i64 x, .int .i64 gg] 111
        have hc := C1.out.made (.cells #[.int .i64 x, .int .i64 gg] 111)
        have hne := C1.out.new
        obtain ⟨nb, hnb⟩ : ∃ b, Y1.heap.size = b := ⟨_, rfl⟩
        rw [hnb] at hb hne ⊢
        obtain ⟨Y2, hY⟩ : ∃ Y, Y = Y1.alloc (.cells #[.int .i64 x, .int .i64 gg] 111) := ⟨_, rfl⟩
        rw [← hY] at hx hb hc ⊢
        have hHeld := hx
        have XD2 := Lib.hid hx
        have B2 := Lib.hid hb
        have C2 := Lib.hid hc
        have NE2 := Lib.hid hne
        clear hc hne
        clear hY hnb hx hb
        refine heldL_ready (rs := [8]) (by kernel_rfl) (by simp) ?_
        refine AllL.cons rfl (fun K hK => ?_) AllL.nil
        refine step_append_ct rfl (.tmp 30) (.tmp 36) 41 rfl C2.out (by rfl) _ _ _ (by rfl) (L.take 0) (by simp <;> omega) ?_ (NW1.out Y2 XD2.out) (by simp <;> omega) ?_
        · intro hao; first | cases hao | (split at hao <;> cases hao) | (simp at hao; try omega)
        intro v1 Y3 hc hg hat
        refine hK.out _ _ (fun _ => hc.ex) (fun _ => ?_)
        clear hK K
        try simp only [Act.put, List.setIfInBounds_toArray, List.set_cons_zero, List.set_cons_succ]
        have hHeld := hc.ex
        have XD3 := Lib.hid hc.ex
        have C3 := Lib.hid hc
        have B3 := Lib.hid (box_far B2.out NE2.out hg)
        have NE3 := Lib.hid (own_far B2.out NE2.out hat)
        clear hc hg hat
        refine heldL_ready (rs := [13]) (by kernel_rfl) (by simp) ?_
        refine AllL.cons rfl (fun K hK => ?_) AllL.nil
        refine step_append_ct rfl (.tmp 37) (.tmp 41) 41 rfl C3.out (by rfl) _ _ _ (by rfl) ([(x, gg, s)]) (by simp <;> omega) ?_ ((fun ad had => by cases had; exact box_news2 B3.out)) (by simp <;> omega) ?_
        · intro hao; first | cases hao | (split at hao <;> cases hao) | (simp at hao; try omega)
        intro v2 Y4 hc hg hat
        refine hK.out _ _ (fun _ => hc.ex) (fun _ => ?_)
        clear hK K
        try simp only [Act.put, List.setIfInBounds_toArray, List.set_cons_zero, List.set_cons_succ]
        have hHeld := hc.ex
        have XD4 := Lib.hid hc.ex
        have C4 := Lib.hid hc
        clear hc hg hat
        refine heldL_ready (rs := [20]) (by kernel_rfl) (by simp) ?_
        refine AllL.cons rfl (fun K hK => ?_) AllL.nil
        refine step_append_ct rfl (.tmp 42) (.tmp 48) 41 rfl C4.out (by rfl) _ _ _ (by rfl) (L.drop 0) (by simp <;> omega) ?_ (NW3.out Y4 XD4.out _ (by intro h; first | rfl | simp [h])) (by simp <;> omega) ?_
        · intro hao; first | cases hao | (split at hao <;> cases hao) | (simp at hao; try omega)
        intro v3 Y5 hc hg hat
        refine hK.out _ _ (fun _ => hc.ex) (fun _ => ?_)
        clear hK K
        try simp only [Act.put, List.setIfInBounds_toArray, List.set_cons_zero, List.set_cons_succ]
        have hHeld := hc.ex
        have XD5 := Lib.hid hc.ex
        have C5 := Lib.hid hc
        clear hc hg hat
        refine heldL_take (i := 21) (v := ?_) rfl (by kernel_rfl) (by kernel_rfl) (by kernel_rfl) (by kernel_rfl) (fun _ _ _ h => h) (Or.inl ⟨by rfl, ?_⟩) (by assumption) ?_
        rotate_left
        · intro w hSw; (try dsimp only at hSw); have c0 := CX.out w hSw; go_simp; try with_reducible rfl
        try simp only [Act.put, List.setIfInBounds_toArray, List.set_cons_zero, List.set_cons_succ]
        refine heldL_take (i := 22) (v := ?_) rfl (by kernel_rfl) (by kernel_rfl) (by kernel_rfl) (by kernel_rfl) (fun _ _ _ h => h) (Or.inl ⟨by rfl, ?_⟩) (by assumption) ?_
        rotate_left
        · intro w hSw; (try dsimp only at hSw); have c0 := CX.out w hSw; go_simp; try with_reducible rfl
        try simp only [Act.put, List.setIfInBounds_toArray, List.set_cons_zero, List.set_cons_succ]
        obtain ⟨a3, n3, c3, rfl⟩ := C5.out.shape
        have s0 := (R0.out.ex XD5.out).cell
        have s1 := (R0.out.ex XD5.out).soft
        refine heldL_store_ct 51 49 (by kernel_rfl) (by kernel_rfl) (by kernel_rfl) (by rfl) (by rfl) s0 s1 ?_
        clear s0 s1
        have CE := Lib.hid (rt_store R0.out C5.out)
        obtain ⟨Z, hZ⟩ : ∃ Z, Z = Y5.setCell ⟨xb, xo, none⟩ (.slice a3 n3 c3) := ⟨_, rfl⟩
        rw [← hZ] at CE ⊢
        clear hZ
        rotate_left
        go_simp
        have hx := (XD0.out.trans (Ex.made Y0 (.cells #[.int .i64 x, .int .i64 gg] 111)))
        refine hK.out _ _ (fun _ => hx) (fun _ => ?_)
        clear hK K
        try simp only [Act.put, List.setIfInBounds_toArray, List.set_cons_zero, List.set_cons_succ]
        have hb := Box.fresh Y0 #[.int .i64 x, .int .i64 gg] 111
        obtain ⟨nb, hnb⟩ : ∃ b, Y0.heap.size = b := ⟨_, rfl⟩
        rw [hnb] at hb ⊢
        obtain ⟨Y1, hY⟩ : ∃ Y, Y = Y0.alloc (.cells #[.int .i64 x, .int .i64 gg] 111) := ⟨_, rfl⟩
        rw [← hY] at hx hb ⊢
        have hHeld := hx
        have XD1 := Lib.hid hx
        have B1 := Lib.hid hb
        clear hY hnb hx hb
        refine heldL_ready (rs := [1]) (by kernel_rfl) (by simp) ?_
        refine AllL.cons rfl (fun K hK => ?_) AllL.nil
        go_simp
        have hx := (XD1.out.trans (Ex.made Y1 (.cells #[] 111)))
        refine hK.out _ _ (fun _ => hx) (fun _ => ?_)
        clear hK K
        try simp only [Act.put, List.setIfInBounds_toArray, List.set_cons_zero, List.set_cons_succ]
        have hc := CT.lit XD1.out
        have hb := (B1.out.ex (Ex.made Y1 (.cells #[] 111)))
        have hlt := B1.out.lt
        obtain ⟨e0, he0⟩ : ∃ e0, Y1.heap.size = e0 := ⟨_, rfl⟩
        rw [he0] at hc ⊢
        rw [he0] at hlt
        obtain ⟨v0, hv0⟩ : ∃ v0, Value.slice (some ⟨e0, 0, none⟩) 0 0 = v0 := ⟨_, rfl⟩
        have hne : ∀ q, v0.ownBlock = some q → q = e0 := fun q hq => by rw [← hv0] at hq; cases hq; rfl
        rw [hv0] at hc ⊢
        obtain ⟨Y2, hY⟩ : ∃ Y, Y = Y1.alloc (.cells #[] 111) := ⟨_, rfl⟩
        rw [← hY] at hx hc hb ⊢
        have hHeld := hx
        have XD2 := Lib.hid hx
        have C2 := Lib.hid hc
        have B2 := Lib.hid hb
        have NE2 : Hid (v0.ownBlock ≠ some nb) := Lib.hid (fun e => by have := hne nb e; omega)
        clear hb hlt
        clear hY hx hc hv0 hne he0
        refine heldL_ready (rs := [8]) (by kernel_rfl) (by simp) ?_
        refine AllL.cons rfl (fun K hK => ?_) AllL.nil
        refine step_append_ct rfl (.tmp 30) (.tmp 36) 41 rfl C2.out (by rfl) _ _ _ (by rfl) (L.take 0) (by simp <;> omega) ?_ (NW1.out Y2 XD2.out) (by simp <;> omega) ?_
        · intro hao; first | cases hao | (split at hao <;> cases hao) | (simp at hao; try omega)
        intro v1 Y3 hc hg hat
        refine hK.out _ _ (fun _ => hc.ex) (fun _ => ?_)
        clear hK K
        try simp only [Act.put, List.setIfInBounds_toArray, List.set_cons_zero, List.set_cons_succ]
        have hHeld := hc.ex
        have XD3 := Lib.hid hc.ex
        have C3 := Lib.hid hc
        have B3 := Lib.hid (box_far B2.out NE2.out hg)
        have NE3 := Lib.hid (own_far B2.out NE2.out hat)
        clear hc hg hat
        refine heldL_ready (rs := [13]) (by kernel_rfl) (by simp) ?_
        refine AllL.cons rfl (fun K hK => ?_) AllL.nil
        refine step_append_ct rfl (.tmp 37) (.tmp 41) 41 rfl C3.out (by rfl) _ _ _ (by rfl) ([(x, gg, s)]) (by simp <;> omega) ?_ ((fun ad had => by cases had; exact box_news2 B3.out)) (by simp <;> omega) ?_
        · intro hao; first | cases hao | (split at hao <;> cases hao) | (simp at hao; try omega)
        intro v2 Y4 hc hg hat
        refine hK.out _ _ (fun _ => hc.ex) (fun _ => ?_)
        clear hK K
        try simp only [Act.put, List.setIfInBounds_toArray, List.set_cons_zero, List.set_cons_succ]
        have hHeld := hc.ex
        have XD4 := Lib.hid hc.ex
        have C4 := Lib.hid hc
        clear hc hg hat
        refine heldL_ready (rs := [20]) (by kernel_rfl) (by simp) ?_
        refine AllL.cons rfl (fun K hK => ?_) AllL.nil
        refine step_append_ct rfl (.tmp 42) (.tmp 48) 41 rfl C4.out (by rfl) _ _ _ (by rfl) (L.drop 0) (by simp <;> omega) ?_ (NW3.out Y4 XD4.out _ (by intro h; first | rfl | simp [h])) (by simp <;> omega) ?_
        · intro hao; first | cases hao | (split at hao <;> cases hao) | (simp at hao; try omega)
        intro v3 Y5 hc hg hat
        refine hK.out _ _ (fun _ => hc.ex) (fun _ => ?_)
        clear hK K
        try simp only [Act.put, List.setIfInBounds_toArray, List.set_cons_zero, List.set_cons_succ]
        have hHeld := hc.ex
        have XD5 := Lib.hid hc.ex
        have C5 := Lib.hid hc
        clear hc hg hat
        refine heldL_take (i := 21) (v := ?_) rfl (by kernel_rfl) (by kernel_rfl) (by kernel_rfl) (by kernel_rfl) (fun _ _ _ h => h) (Or.inl ⟨by rfl, ?_⟩) (by assumption) ?_
        rotate_left
        · intro w hSw; (try dsimp only at hSw); have c0 := CX.out w hSw; go_simp; try with_reducible rfl
        try simp only [Act.put, List.setIfInBounds_toArray, List.set_cons_zero, List.set_cons_succ]
        refine heldL_take (i := 22) (v := ?_) rfl (by kernel_rfl) (by kernel_rfl) (by kernel_rfl) (by kernel_rfl) (fun _ _ _ h => h) (Or.inl ⟨by rfl, ?_⟩) (by assumption) ?_
        rotate_left
        · intro w hSw; (try dsimp only at hSw); have c0 := CX.out w hSw; go_simp; try with_reducible rfl
        try simp only [Act.put, List.setIfInBounds_toArray, List.set_cons_zero, List.set_cons_succ]
        obtain ⟨a3, n3, c3, rfl⟩ := C5.out.shape
        have s0 := (R0.out.ex XD5.out).cell
        have s1 := (R0.out.ex XD5.out).soft
        refine heldL_store_ct 51 49 (by kernel_rfl) (by kernel_rfl) (by kernel_rfl) (by rfl) (by rfl) s0 s1 ?_
        clear s0 s1
        have CE := Lib.hid (rt_store R0.out C5.out)
        obtain ⟨Z, hZ⟩ : ∃ Z, Z = Y5.setCell ⟨xb, xo, none⟩ (.slice a3 n3 c3) := ⟨_, rfl⟩
        rw [← hZ] at CE ⊢
        clear hZ
        rotate_left
        all_goals
          clear CX NW1 NW3
          go_wp2_with fail
          all_goals exact Go.Great.bodyPost_end0 rfl rfl ⟨rfl, ⟨_, addR_is x gg s HKI.out ▸ CE.out.1, fun g hg => .inr (Nat.le_trans HXX.out.size (CE.out.2.2 g hg))⟩, Chx.exl HXX.out CE.out.2.1⟩
    | succ j =>
      obtain ⟨kk, hkk⟩ : ∃ kk, j + 1 = kk := ⟨_, rfl⟩
      rw [hkk] at hj HC ⊢
      have HKK := Lib.hid hkk
      obtain ⟨y, hy⟩ : ∃ y, (at3 L j).1 = y := ⟨_, rfl⟩
      have r0 : (kk : Int) - 1 = (j : Int) := by omega
      have r1 : wrap64 (j : Int) = (j : Int) := by unfold wrap64; omega
      have r2 : (0 : Int) < (kk : Int) := by omega
      have r4 : 0 < kk := by omega
      have r5 : decide (0 < kk) = true := decide_eq_true r4
      have r3 : (j : Int) < (L.length : Int) := by omega
      have hL : L ≠ [] := fun e => by rw [e] at hj; simp at hj; omega
      rcases HSH.out with ⟨-, -, h0⟩ | ⟨g, off, rfl, hvc, hrd⟩
      · exact absurd h0 hL
      have c1 : w.cell? ⟨g, off + j * 2, none⟩ = some (.int .i64 y) := hy ▸ (hrd w (Ex.refl w) j (by omega)).1
      have HYV := Lib.hid hy
      have HJ : Hid (kk ≤ L.length) := Lib.hid hj
      have ra : (j : Int) ≤ 200 := by omega
      have HRD := Lib.hid hrd
      have HVC := Lib.hid hvc
      clear hy hrd hvc hj hkk hL
      by_cases hlt : x < y
      · have hb : decide (x < y) = true := decide_eq_true hlt
        go_wp2_with fail
        go_roundw
        case rel =>
          refine ⟨j, by have := HJ.out; have := HKK.out; omega, rfl, ?_, by first | rfl | trivial⟩
          rw [← HC.out, ← HKK.out, cutT, HYV.out, if_pos hlt]
        case measure => have := HKK.out; simp [intOf]; omega
      · have hb : decide (x < y) = false := decide_eq_false hlt
        have HLT := Lib.hid hlt
        go_upto_region 3 with fail
        have CX := Lib.hid (fun W (hW : Ex w.drew W) => (H.out.ex ((ex_drw w).trans hW)).cell)
        have R0 := Lib.hid (H.out.ex (ex_drw w))
        have HXX := Lib.hid (ex_drw w)
        have HKI : Hid (cutT L x L.length = kk) := Lib.hid (by rw [← HC.out, ← HKK.out, cutT, HYV.out, if_neg HLT.out])
        clear c0 c1 HC HSH
        have hvc' : (L.length : Int) ≤ (vc : Int) := by have := HVC.out; omega
        have hkl : kk ≤ L.length := HJ.out
        have hki : (kk : Int) ≤ (L.length : Int) := by omega
        have hkc : (kk : Int) ≤ (vc : Int) := by omega
        have NW1 := Lib.hid (fun W (hW : Ex w.drew W) => news_takeR (HRD.out W ((ex_drw w).trans hW)) kk)
        have NW3 := Lib.hid (fun W (hW : Ex w.drew W) => news_dropR (HRD.out W ((ex_drw w).trans hW)) kk vc HVC.out)
        refine wp_region_last (S := fun w' => Ex w.drew w') 23 24 (by kernel_rfl) (by kernel_rfl) (by kernel_rfl) (Ex.refl _) (fun hHeld => ?_)
        have XD0 := Lib.hid (Ex.refl w.drew)
        generalize w.drew = Y0 at *
        refine heldL_take (i := 0) (v := ?_) rfl (by kernel_rfl) (by kernel_rfl) (by kernel_rfl) (by kernel_rfl) (fun _ _ _ h => h) (Or.inl ⟨by rfl, ?_⟩) (by assumption) ?_
        rotate_left
        · intro w hSw; (try dsimp only at hSw); have c0 := CX.out w hSw; go_simp; try with_reducible rfl
        try simp only [Act.put, List.setIfInBounds_toArray, List.set_cons_zero, List.set_cons_succ]
        refine heldL_take (i := 2) (v := ?_) rfl (by kernel_rfl) (by kernel_rfl) (by kernel_rfl) (by kernel_rfl) (fun _ _ _ h => h) (Or.inl ⟨by rfl, ?_⟩) (by assumption) ?_
        rotate_left
        · intro w hSw; (try dsimp only at hSw); have c0 := CX.out w hSw; go_simp; try with_reducible rfl
        try simp only [Act.put, List.setIfInBounds_toArray, List.set_cons_zero, List.set_cons_succ]
        refine heldL_take (i := 3) (v := ?_) rfl (by kernel_rfl) (by kernel_rfl) (by kernel_rfl) (by kernel_rfl) (fun _ _ _ h => h) (Or.inl ⟨by rfl, ?_⟩) (by assumption) ?_
        rotate_left
        · intro w hSw; (try dsimp only at hSw); have c0 := CX.out w hSw; go_simp; try with_reducible rfl
        try simp only [Act.put, List.setIfInBounds_toArray, List.set_cons_zero, List.set_cons_succ]
        refine heldL_take (i := 4) (v := ?_) rfl (by kernel_rfl) (by kernel_rfl) (by kernel_rfl) (by kernel_rfl) (fun _ _ _ h => h) (Or.inl ⟨by rfl, ?_⟩) (by assumption) ?_
        rotate_left
        · intro w hSw; (try dsimp only at hSw); have c0 := CX.out w hSw; go_simp; try with_reducible rfl
        try simp only [Act.put, List.setIfInBounds_toArray, List.set_cons_zero, List.set_cons_succ]
        refine heldL_take (i := 5) (v := ?_) rfl (by kernel_rfl) (by kernel_rfl) (by kernel_rfl) (by kernel_rfl) (fun _ _ _ h => h) (Or.inl ⟨by rfl, ?_⟩) (by assumption) ?_
        rotate_left
        · intro w hSw; (try dsimp only at hSw); have c0 := CX.out w hSw; go_simp; try with_reducible rfl
        try simp only [Act.put, List.setIfInBounds_toArray, List.set_cons_zero, List.set_cons_succ]
        refine heldL_take (i := 6) (v := ?_) rfl (by kernel_rfl) (by kernel_rfl) (by kernel_rfl) (by kernel_rfl) (fun _ _ _ h => h) (Or.inl ⟨by rfl, ?_⟩) (by assumption) ?_
        rotate_left
        · intro w hSw; (try dsimp only at hSw); have c0 := CX.out w hSw; go_simp; try with_reducible rfl
        try simp only [Act.put, List.setIfInBounds_toArray, List.set_cons_zero, List.set_cons_succ]
        refine heldL_take (i := 7) (v := ?_) rfl (by kernel_rfl) (by kernel_rfl) (by kernel_rfl) (by kernel_rfl) (fun _ _ _ h => h) (Or.inl ⟨by rfl, ?_⟩) (by assumption) ?_
        rotate_left
        · intro w hSw; (try dsimp only at hSw); have c0 := CX.out w hSw; go_simp; try with_reducible rfl
        try simp only [Act.put, List.setIfInBounds_toArray, List.set_cons_zero, List.set_cons_succ]
        refine heldL_take (i := 9) (v := ?_) rfl (by kernel_rfl) (by kernel_rfl) (by kernel_rfl) (by kernel_rfl) (fun _ _ _ h => h) (Or.inl ⟨by rfl, ?_⟩) (by assumption) ?_
        rotate_left
        · intro w hSw; (try dsimp only at hSw); have c0 := CX.out w hSw; go_simp; try with_reducible rfl
        try simp only [Act.put, List.setIfInBounds_toArray, List.set_cons_zero, List.set_cons_succ]
        refine heldL_take (i := 10) (v := ?_) rfl (by kernel_rfl) (by kernel_rfl) (by kernel_rfl) (by kernel_rfl) (fun _ _ _ h => h) (Or.inl ⟨by rfl, ?_⟩) (by assumption) ?_
        rotate_left
        · intro w hSw; (try dsimp only at hSw); have c0 := CX.out w hSw; go_simp; try with_reducible rfl
        try simp only [Act.put, List.setIfInBounds_toArray, List.set_cons_zero, List.set_cons_succ]
        refine heldL_take (i := 11) (v := ?_) rfl (by kernel_rfl) (by kernel_rfl) (by kernel_rfl) (by kernel_rfl) (fun _ _ _ h => h) (Or.inl ⟨by rfl, ?_⟩) (by assumption) ?_
        rotate_left
        · intro w hSw; (try dsimp only at hSw); have c0 := CX.out w hSw; go_simp; try with_reducible rfl
        try simp only [Act.put, List.setIfInBounds_toArray, List.set_cons_zero, List.set_cons_succ]
        refine heldL_take (i := 14) (v := ?_) rfl (by kernel_rfl) (by kernel_rfl) (by kernel_rfl) (by kernel_rfl) (fun _ _ _ h => h) (Or.inl ⟨by rfl, ?_⟩) (by assumption) ?_
        rotate_left
        · intro w hSw; (try dsimp only at hSw); have c0 := CX.out w hSw; go_simp; try with_reducible rfl
        try simp only [Act.put, List.setIfInBounds_toArray, List.set_cons_zero, List.set_cons_succ]
        refine heldL_take (i := 15) (v := ?_) rfl (by kernel_rfl) (by kernel_rfl) (by kernel_rfl) (by kernel_rfl) (fun _ _ _ h => h) (Or.inl ⟨by rfl, ?_⟩) (by assumption) ?_
        rotate_left
        · intro w hSw; (try dsimp only at hSw); have c0 := CX.out w hSw; go_simp; try with_reducible rfl
        try simp only [Act.put, List.setIfInBounds_toArray, List.set_cons_zero, List.set_cons_succ]
        refine heldL_take (i := 16) (v := ?_) rfl (by kernel_rfl) (by kernel_rfl) (by kernel_rfl) (by kernel_rfl) (fun _ _ _ h => h) (Or.inl ⟨by rfl, ?_⟩) (by assumption) ?_
        rotate_left
        · intro w hSw; (try dsimp only at hSw); have c0 := CX.out w hSw; go_simp; try with_reducible rfl
        try simp only [Act.put, List.setIfInBounds_toArray, List.set_cons_zero, List.set_cons_succ]
        refine heldL_take (i := 17) (v := ?_) rfl (by kernel_rfl) (by kernel_rfl) (by kernel_rfl) (by kernel_rfl) (fun _ _ _ h => h) (Or.inl ⟨by rfl, ?_⟩) (by assumption) ?_
        rotate_left
        · intro w hSw; (try dsimp only at hSw); have c0 := CX.out w hSw; go_simp; try with_reducible rfl
        try simp only [Act.put, List.setIfInBounds_toArray, List.set_cons_zero, List.set_cons_succ]
        refine heldL_take (i := 18) (v := ?_) rfl (by kernel_rfl) (by kernel_rfl) (by kernel_rfl) (by kernel_rfl) (fun _ _ _ h => h) (Or.inl ⟨by rfl, ?_⟩) (by assumption) ?_
        rotate_left
        · intro w hSw; (try dsimp only at hSw); have c0 := CX.out w hSw; go_simp; try with_reducible rfl
        try simp only [Act.put, List.setIfInBounds_toArray, List.set_cons_zero, List.set_cons_succ]
        refine heldL_take (i := 19) (v := ?_) rfl (by kernel_rfl) (by kernel_rfl) (by kernel_rfl) (by kernel_rfl) (fun _ _ _ h => h) (Or.inl ⟨by rfl, ?_⟩) (by assumption) ?_
        rotate_left
        · intro w hSw; (try dsimp only at hSw); have c0 := CX.out w hSw; go_simp; try with_reducible rfl
        try simp only [Act.put, List.setIfInBounds_toArray, List.set_cons_zero, List.set_cons_succ]
        refine heldL_ready (rs := [1, 12]) (by kernel_rfl) (by simp) ?_
        refine AllL.cons rfl (fun K hK => ?_) (AllL.cons rfl (fun K hK => ?_) AllL.nil)
        go_simp
        have hx := (XD0.out.trans (Ex.made Y0 (.cells #[] 111)))
        refine hK.out _ _ (fun _ => hx) (fun _ => ?_)
        clear hK K
        try simp only [Act.put, List.setIfInBounds_toArray, List.set_cons_zero, List.set_cons_succ]
        have hc := CT.lit XD0.out
        obtain ⟨e0, he0⟩ : ∃ e0, Y0.heap.size = e0 := ⟨_, rfl⟩
        rw [he0] at hc ⊢
        obtain ⟨v0, hv0⟩ : ∃ v0, Value.slice (some ⟨e0, 0, none⟩) 0 0 = v0 := ⟨_, rfl⟩
        have hne : ∀ q, v0.ownBlock = some q → q = e0 := fun q hq => by rw [← hv0] at hq; cases hq; rfl
        rw [hv0] at hc ⊢
        obtain ⟨Y1, hY⟩ : ∃ Y, Y = Y0.alloc (.cells #[] 111) := ⟨_, rfl⟩
        rw [← hY] at hx hc ⊢
        have hHeld := hx
        have XD1 := Lib.hid hx
        have C1 := Lib.hid hc
        clear hY hx hc hv0 hne he0
        refine heldL_ready (rs := [8, 12]) (by kernel_rfl) (by simp) ?_
        refine AllL.cons rfl (fun K hK => ?_) (AllL.cons rfl (fun K hK => ?_) AllL.nil)
        refine step_append_ct rfl (.tmp 30) (.tmp 36) 41 rfl C1.out (by rfl) _ _ _ (by rfl) (L.take kk) (by simp <;> omega) ?_ (NW1.out Y1 XD1.out) (by simp <;> omega) ?_
        · intro hao; first | cases hao | (split at hao <;> cases hao) | (simp at hao; try omega)
        intro v1 Y2 hc hg hat
        refine hK.out _ _ (fun _ => hc.ex) (fun _ => ?_)
        clear hK K
        try simp only [Act.put, List.setIfInBounds_toArray, List.set_cons_zero, List.set_cons_succ]
        have hHeld := hc.ex
        have XD2 := Lib.hid hc.ex
        have C2 := Lib.hid hc
        clear hc hg hat
        refine heldL_ready (rs := [12]) (by kernel_rfl) (by simp) ?_
        refine AllL.cons rfl (fun K hK => ?_) AllL.nil
        go_simp
        have hx := (XD2.out.trans (Ex.made Y2 (.cells #[.int .i64 x, .int .i64 gg] 111)))
        refine hK.out _ _ (fun _ => hx) (fun _ => ?_)
        clear hK K
        try simp only [Act.put, List.setIfInBounds_toArray, List.set_cons_zero, List.set_cons_succ]
        have hb := Box.fresh Y2 #[.int .i64 x, .int .i64 gg] 111
        have hc := C2.out.made (.cells #[.int .i64 x, .int .i64 gg] 111)
        have hne := C2.out.new
        obtain ⟨nb, hnb⟩ : ∃ b, Y2.heap.size = b := ⟨_, rfl⟩
        rw [hnb] at hb hne ⊢
        obtain ⟨Y3, hY⟩ : ∃ Y, Y = Y2.alloc (.cells #[.int .i64 x, .int .i64 gg] 111) := ⟨_, rfl⟩
        rw [← hY] at hx hb hc ⊢
        have hHeld := hx
        have XD3 := Lib.hid hx
        have B3 := Lib.hid hb
        have C3 := Lib.hid hc
        have NE3 := Lib.hid hne
        clear hc hne
        clear hY hnb hx hb
        refine heldL_ready (rs := [13]) (by kernel_rfl) (by simp) ?_
        refine AllL.cons rfl (fun K hK => ?_) AllL.nil
        refine step_append_ct rfl (.tmp 37) (.tmp 41) 41 rfl C3.out (by rfl) _ _ _ (by rfl) ([(x, gg, s)]) (by simp <;> omega) ?_ ((fun ad had => by cases had; exact box_news2 B3.out)) (by simp <;> omega) ?_
        · intro hao; first | cases hao | (split at hao <;> cases hao) | (simp at hao; try omega)
        intro v2 Y4 hc hg hat
        refine hK.out _ _ (fun _ => hc.ex) (fun _ => ?_)
        clear hK K
        try simp only [Act.put, List.setIfInBounds_toArray, List.set_cons_zero, List.set_cons_succ]
        have hHeld := hc.ex
        have XD4 := Lib.hid hc.ex
        have C4 := Lib.hid hc
        clear hc hg hat
        refine heldL_ready (rs := [20]) (by kernel_rfl) (by simp) ?_
        refine AllL.cons rfl (fun K hK => ?_) AllL.nil
        refine step_append_ct rfl (.tmp 42) (.tmp 48) 41 rfl C4.out (by rfl) _ _ _ (by rfl) (L.drop kk) (by simp <;> omega) ?_ (NW3.out Y4 XD4.out _ (by intro h; first | rfl | simp [h])) (by simp <;> omega) ?_
        · intro hao; first | cases hao | (split at hao <;> cases hao) | (simp at hao; try omega)
        intro v3 Y5 hc hg hat
        refine hK.out _ _ (fun _ => hc.ex) (fun _ => ?_)
        clear hK K
        try simp only [Act.put, List.setIfInBounds_toArray, List.set_cons_zero, List.set_cons_succ]
        have hHeld := hc.ex
        have XD5 := Lib.hid hc.ex
        have C5 := Lib.hid hc
        clear hc hg hat
        refine heldL_take (i := 21) (v := ?_) rfl (by kernel_rfl) (by kernel_rfl) (by kernel_rfl) (by kernel_rfl) (fun _ _ _ h => h) (Or.inl ⟨by rfl, ?_⟩) (by assumption) ?_
        rotate_left
        · intro w hSw; (try dsimp only at hSw); have c0 := CX.out w hSw; go_simp; try with_reducible rfl
        try simp only [Act.put, List.setIfInBounds_toArray, List.set_cons_zero, List.set_cons_succ]
        refine heldL_take (i := 22) (v := ?_) rfl (by kernel_rfl) (by kernel_rfl) (by kernel_rfl) (by kernel_rfl) (fun _ _ _ h => h) (Or.inl ⟨by rfl, ?_⟩) (by assumption) ?_
        rotate_left
        · intro w hSw; (try dsimp only at hSw); have c0 := CX.out w hSw; go_simp; try with_reducible rfl
        try simp only [Act.put, List.setIfInBounds_toArray, List.set_cons_zero, List.set_cons_succ]
        obtain ⟨a3, n3, c3, rfl⟩ := C5.out.shape
        have s0 := (R0.out.ex XD5.out).cell
        have s1 := (R0.out.ex XD5.out).soft
        refine heldL_store_ct 51 49 (by kernel_rfl) (by kernel_rfl) (by kernel_rfl) (by rfl) (by rfl) s0 s1 ?_
        clear s0 s1
        have CE := Lib.hid (rt_store R0.out C5.out)
        obtain ⟨Z, hZ⟩ : ∃ Z, Z = Y5.setCell ⟨xb, xo, none⟩ (.slice a3 n3 c3) := ⟨_, rfl⟩
        rw [← hZ] at CE ⊢
        clear hZ
        rotate_left
        go_simp
        have hx := (XD1.out.trans (Ex.made Y1 (.cells #[.int .i64 x, .int .i64 gg] 111)))
        refine hK.out _ _ (fun _ => hx) (fun _ => ?_)
        clear hK K
        try simp only [Act.put, List.setIfInBounds_toArray, List.set_cons_zero, List.set_cons_succ]
        have hb := Box.fresh Y1 #[.int .i64 x, .int .i64 gg] 111
        have hc := C1.out.made (.cells #[.int .i64 x, .int .i64 gg] 111)
        have hne := C1.out.new
        obtain ⟨nb, hnb⟩ : ∃ b, Y1.heap.size = b := ⟨_, rfl⟩
        rw [hnb] at hb hne ⊢
        obtain ⟨Y2, hY⟩ : ∃ Y, Y = Y1.alloc (.cells #[.int .i64 x, .int .i64 gg] 111) := ⟨_, rfl⟩
        rw [← hY] at hx hb hc ⊢
        have hHeld := hx
        have XD2 := Lib.hid hx
        have B2 := Lib.hid hb
        have C2 := Lib.hid hc
        have NE2 := Lib.hid hne
        clear hc hne
        clear hY hnb hx hb
        refine heldL_ready (rs := [8]) (by kernel_rfl) (by simp) ?_
        refine AllL.cons rfl (fun K hK => ?_) AllL.nil
        refine step_append_ct rfl (.tmp 30) (.tmp 36) 41 rfl C2.out (by rfl) _ _ _ (by rfl) (L.take kk) (by simp <;> omega) ?_ (NW1.out Y2 XD2.out) (by simp <;> omega) ?_
        · intro hao; first | cases hao | (split at hao <;> cases hao) | (simp at hao; try omega)
        intro v1 Y3 hc hg hat
        refine hK.out _ _ (fun _ => hc.ex) (fun _ => ?_)
        clear hK K
        try simp only [Act.put, List.setIfInBounds_toArray, List.set_cons_zero, List.set_cons_succ]
        have hHeld := hc.ex
        have XD3 := Lib.hid hc.ex
        have C3 := Lib.hid hc
        have B3 := Lib.hid (box_far B2.out NE2.out hg)
        have NE3 := Lib.hid (own_far B2.out NE2.out hat)
        clear hc hg hat
        refine heldL_ready (rs := [13]) (by kernel_rfl) (by simp) ?_
        refine AllL.cons rfl (fun K hK => ?_) AllL.nil
        refine step_append_ct rfl (.tmp 37) (.tmp 41) 41 rfl C3.out (by rfl) _ _ _ (by rfl) ([(x, gg, s)]) (by simp <;> omega) ?_ ((fun ad had => by cases had; exact box_news2 B3.out)) (by simp <;> omega) ?_
        · intro hao; first | cases hao | (split at hao <;> cases hao) | (simp at hao; try omega)
        intro v2 Y4 hc hg hat
        refine hK.out _ _ (fun _ => hc.ex) (fun _ => ?_)
        clear hK K
        try simp only [Act.put, List.setIfInBounds_toArray, List.set_cons_zero, List.set_cons_succ]
        have hHeld := hc.ex
        have XD4 := Lib.hid hc.ex
        have C4 := Lib.hid hc
        clear hc hg hat
        refine heldL_ready (rs := [20]) (by kernel_rfl) (by simp) ?_
        refine AllL.cons rfl (fun K hK => ?_) AllL.nil
        refine step_append_ct rfl (.tmp 42) (.tmp 48) 41 rfl C4.out (by rfl) _ _ _ (by rfl) (L.drop kk) (by simp <;> omega) ?_ (NW3.out Y4 XD4.out _ (by intro h; first | rfl | simp [h])) (by simp <;> omega) ?_
        · intro hao; first | cases hao | (split at hao <;> cases hao) | (simp at hao; try omega)
        intro v3 Y5 hc hg hat
        refine hK.out _ _ (fun _ => hc.ex) (fun _ => ?_)
        clear hK K
        try simp only [Act.put, List.setIfInBounds_toArray, List.set_cons_zero, List.set_cons_succ]
        have hHeld := hc.ex
        have XD5 := Lib.hid hc.ex
        have C5 := Lib.hid hc
        clear hc hg hat
        refine heldL_take (i := 21) (v := ?_) rfl (by kernel_rfl) (by kernel_rfl) (by kernel_rfl) (by kernel_rfl) (fun _ _ _ h => h) (Or.inl ⟨by rfl, ?_⟩) (by assumption) ?_
        rotate_left
        · intro w hSw; (try dsimp only at hSw); have c0 := CX.out w hSw; go_simp; try with_reducible rfl
        try simp only [Act.put, List.setIfInBounds_toArray, List.set_cons_zero, List.set_cons_succ]
        refine heldL_take (i := 22) (v := ?_) rfl (by kernel_rfl) (by kernel_rfl) (by kernel_rfl) (by kernel_rfl) (fun _ _ _ h => h) (Or.inl ⟨by rfl, ?_⟩) (by assumption) ?_
        rotate_left
        · intro w hSw; (try dsimp only at hSw); have c0 := CX.out w hSw; go_simp; try with_reducible rfl
        try simp only [Act.put, List.setIfInBounds_toArray, List.set_cons_zero, List.set_cons_succ]
        obtain ⟨a3, n3, c3, rfl⟩ := C5.out.shape
        have s0 := (R0.out.ex XD5.out).cell
        have s1 := (R0.out.ex XD5.out).soft
        refine heldL_store_ct 51 49 (by kernel_rfl) (by kernel_rfl) (by kernel_rfl) (by rfl) (by rfl) s0 s1 ?_
        clear s0 s1
        have CE := Lib.hid (rt_store R0.out C5.out)
        obtain ⟨Z, hZ⟩ : ∃ Z, Z = Y5.setCell ⟨xb, xo, none⟩ (.slice a3 n3 c3) := ⟨_, rfl⟩
        rw [← hZ] at CE ⊢
        clear hZ
        rotate_left
        go_simp
        have hx := (XD0.out.trans (Ex.made Y0 (.cells #[.int .i64 x, .int .i64 gg] 111)))
        refine hK.out _ _ (fun _ => hx) (fun _ => ?_)
        clear hK K
        try simp only [Act.put, List.setIfInBounds_toArray, List.set_cons_zero, List.set_cons_succ]
        have hb := Box.fresh Y0 #[.int .i64 x, .int .i64 gg] 111
        obtain ⟨nb, hnb⟩ : ∃ b, Y0.heap.size = b := ⟨_, rfl⟩
        rw [hnb] at hb ⊢
        obtain ⟨Y1, hY⟩ : ∃ Y, Y = Y0.alloc (.cells #[.int .i64 x, .int .i64 gg] 111) := ⟨_, rfl⟩
        rw [← hY] at hx hb ⊢
        have hHeld := hx
        have XD1 := Lib.hid hx
        have B1 := Lib.hid hb
        clear hY hnb hx hb
        refine heldL_ready (rs := [1]) (by kernel_rfl) (by simp) ?_
        refine AllL.cons rfl (fun K hK => ?_) AllL.nil
        go_simp
        have hx := (XD1.out.trans (Ex.made Y1 (.cells #[] 111)))
        refine hK.out _ _ (fun _ => hx) (fun _ => ?_)
        clear hK K
        try simp only [Act.put, List.setIfInBounds_toArray, List.set_cons_zero, List.set_cons_succ]
        have hc := CT.lit XD1.out
        have hb := (B1.out.ex (Ex.made Y1 (.cells #[] 111)))
        have hlt := B1.out.lt
        obtain ⟨e0, he0⟩ : ∃ e0, Y1.heap.size = e0 := ⟨_, rfl⟩
        rw [he0] at hc ⊢
        rw [he0] at hlt
        obtain ⟨v0, hv0⟩ : ∃ v0, Value.slice (some ⟨e0, 0, none⟩) 0 0 = v0 := ⟨_, rfl⟩
        have hne : ∀ q, v0.ownBlock = some q → q = e0 := fun q hq => by rw [← hv0] at hq; cases hq; rfl
        rw [hv0] at hc ⊢
        obtain ⟨Y2, hY⟩ : ∃ Y, Y = Y1.alloc (.cells #[] 111) := ⟨_, rfl⟩
        rw [← hY] at hx hc hb ⊢
        have hHeld := hx
        have XD2 := Lib.hid hx
        have C2 := Lib.hid hc
        have B2 := Lib.hid hb
        have NE2 : Hid (v0.ownBlock ≠ some nb) := Lib.hid (fun e => by have := hne nb e; omega)
        clear hb hlt
        clear hY hx hc hv0 hne he0
        refine heldL_ready (rs := [8]) (by kernel_rfl) (by simp) ?_
        refine AllL.cons rfl (fun K hK => ?_) AllL.nil
        refine step_append_ct rfl (.tmp 30) (.tmp 36) 41 rfl C2.out (by rfl) _ _ _ (by rfl) (L.take kk) (by simp <;> omega) ?_ (NW1.out Y2 XD2.out) (by simp <;> omega) ?_
        · intro hao; first | cases hao | (split at hao <;> cases hao) | (simp at hao; try omega)
        intro v1 Y3 hc hg hat
        refine hK.out _ _ (fun _ => hc.ex) (fun _ => ?_)
        clear hK K
        try simp only [Act.put, List.setIfInBounds_toArray, List.set_cons_zero, List.set_cons_succ]
        have hHeld := hc.ex
        have XD3 := Lib.hid hc.ex
        have C3 := Lib.hid hc
        have B3 := Lib.hid (box_far B2.out NE2.out hg)
        have NE3 := Lib.hid (own_far B2.out NE2.out hat)
        clear hc hg hat
        refine heldL_ready (rs := [13]) (by kernel_rfl) (by simp) ?_
        refine AllL.cons rfl (fun K hK => ?_) AllL.nil
        refine step_append_ct rfl (.tmp 37) (.tmp 41) 41 rfl C3.out (by rfl) _ _ _ (by rfl) ([(x, gg, s)]) (by simp <;> omega) ?_ ((fun ad had => by cases had; exact box_news2 B3.out)) (by simp <;> omega) ?_
        · intro hao; first | cases hao | (split at hao <;> cases hao) | (simp at hao; try omega)
        intro v2 Y4 hc hg hat
        refine hK.out _ _ (fun _ => hc.ex) (fun _ => ?_)
        clear hK K
        try simp only [Act.put, List.setIfInBounds_toArray, List.set_cons_zero, List.set_cons_succ]
        have hHeld := hc.ex
        have XD4 := Lib.hid hc.ex
        have C4 := Lib.hid hc
        clear hc hg hat
        refine heldL_ready (rs := [20]) (by kernel_rfl) (by simp) ?_
        refine AllL.cons rfl (fun K hK => ?_) AllL.nil
        refine step_append_ct rfl (.tmp 42) (.tmp 48) 41 rfl C4.out (by rfl) _ _ _ (by rfl) (L.drop kk) (by simp <;> omega) ?_ (NW3.out Y4 XD4.out _ (by intro h; first | rfl | simp [h])) (by simp <;> omega) ?_
        · intro hao; first | cases hao | (split at hao <;> cases hao) | (simp at hao; try omega)
        intro v3 Y5 hc hg hat
        refine hK.out _ _ (fun _ => hc.ex) (fun _ => ?_)
        clear hK K
        try simp only [Act.put, List.setIfInBounds_toArray, List.set_cons_zero, List.set_cons_succ]
        have hHeld := hc.ex
        have XD5 := Lib.hid hc.ex
        have C5 := Lib.hid hc
        clear hc hg hat
        refine heldL_take (i := 21) (v := ?_) rfl (by kernel_rfl) (by kernel_rfl) (by kernel_rfl) (by kernel_rfl) (fun _ _ _ h => h) (Or.inl ⟨by rfl, ?_⟩) (by assumption) ?_
        rotate_left
        · intro w hSw; (try dsimp only at hSw); have c0 := CX.out w hSw; go_simp; try with_reducible rfl
        try simp only [Act.put, List.setIfInBounds_toArray, List.set_cons_zero, List.set_cons_succ]
        refine heldL_take (i := 22) (v := ?_) rfl (by kernel_rfl) (by kernel_rfl) (by kernel_rfl) (by kernel_rfl) (fun _ _ _ h => h) (Or.inl ⟨by rfl, ?_⟩) (by assumption) ?_
        rotate_left
        · intro w hSw; (try dsimp only at hSw); have c0 := CX.out w hSw; go_simp; try with_reducible rfl
        try simp only [Act.put, List.setIfInBounds_toArray, List.set_cons_zero, List.set_cons_succ]
        obtain ⟨a3, n3, c3, rfl⟩ := C5.out.shape
        have s0 := (R0.out.ex XD5.out).cell
        have s1 := (R0.out.ex XD5.out).soft
        refine heldL_store_ct 51 49 (by kernel_rfl) (by kernel_rfl) (by kernel_rfl) (by rfl) (by rfl) s0 s1 ?_
        clear s0 s1
        have CE := Lib.hid (rt_store R0.out C5.out)
        obtain ⟨Z, hZ⟩ : ∃ Z, Z = Y5.setCell ⟨xb, xo, none⟩ (.slice a3 n3 c3) := ⟨_, rfl⟩
        rw [← hZ] at CE ⊢
        clear hZ
        rotate_left
        all_goals
          clear CX NW1 NW3
          go_wp2_with fail
          all_goals exact Go.Great.bodyPost_end0 rfl rfl ⟨rfl, ⟨_, addR_is x gg s HKI.out ▸ CE.out.1, fun g hg => .inr (Nat.le_trans HXX.out.size (CE.out.2.2 g hg))⟩, Chx.exl HXX.out CE.out.2.1⟩

end Go.Proofs.YtmlobpapjfkbmaaGreat.T13

/- The document's Due. -/
namespace Go.Proofs.YtmlobpapjfkbmaaGreat.T13
open Go.RowKit
set_option linter.unusedVariables false
set_option maxRecDepth 20000
set_option linter.unusedSimpArgs false

def rdueL (now : Int) : List T3 → List Int × List T3
  | [] => ([], [])
  | p :: l => if p.1 ≤ now then (p.2.1 :: (rdueL now l).1, (rdueL now l).2) else ([], p :: l)
def RDueR (w : World) (xb xo : Nat) (v : Value) (L : List T3) (now : Int) (e : Ending) (w' : World) : Prop :=
  ∃ u, e = .returned u ∧ w'.ownsRow w.heap.size 3 1 u (rdueL now L).1.length (intsZ (rdueL now L).1) ∧ (∃ v', Rt w' xb xo v' (rdueL now L).2 ∧ (∀ g, v'.ownBlock = some g → v.ownBlock = some g)) ∧ Chx xb xo w w'

theorem Rt.own {w : World} {xb xo : Nat} {v : Value} {L : List T3} (h : Rt w xb xo v L) : ∀ g, v.ownBlock = some g → g ≠ xb ∧ g < w.heap.size := fun g hg => by
  rcases h.row with ⟨rfl, -⟩ | ⟨g', off, cap, rfl, -, h1, h2, -⟩
  · cases hg
  · cases hg; exact ⟨h1, h2⟩

set_option maxRecDepth 20000 in
set_option maxHeartbeats 6400000 in
theorem rdue_any {w : World} {xb xo : Nat} {v : Value} {L : List T3} (h : Rt w xb xo v L) (hn : L.length ≤ 200) (now : Int) :
    Calls Tryz.prog 27 #[.pointer (some ⟨xb, xo, none⟩), .int .i64 now] w (RDueR w xb xo v L now) := by
  have H := Lib.hid h
  clear h
  go_enter Tryz.func27, Tryz.ntmps27
  go_wp2_with fail
  go_loopw [5] (fun ov wr => ∃ (m : List T3) (xs : List Int) (u : Value), Rt wr xb xo u m ∧ (∀ g, u.ownBlock = some g → v.ownBlock = some g) ∧ xs.length + m.length = L.length ∧ wr.ownsRow w.heap.size 3 1 ov xs.length (intsZ xs) ∧ Chx xb xo w wr ∧
    (xs ++ (rdueL now m).1, (rdueL now m).2) = rdueL now L) (fun ov _ => L.length - lenOf ov)
  case atStart => exact ⟨L, [], v, H.out, fun _ h => h, by simp, World.ownsRow_nil _ _ _ _, Chx.refl _ _ _, by simp⟩
  case round =>
    obtain ⟨m, xs, u, hs, hu, hlen, hx, hc, he⟩ := hrel
    have HS := Lib.hid hs
    have HU := Lib.hid hu
    have HX := Lib.hid hx
    have HC := Lib.hid hc
    have HE := Lib.hid he
    have c0 := hs.cell
    have s0 := hs.soft
    have fin : rdueL now m = ([], m) → RDueR w xb xo v L now (.returned u5) wr := by
      intro h
      have he := HE.out
      rw [h] at he
      simp only [List.append_nil] at he
      unfold RDueR
      rw [← he]
      exact ⟨_, rfl, HX.out, ⟨_, HS.out, HU.out⟩, HC.out⟩
    have FIN := Lib.hid fin
    clear hs hu hx hc he fin
    cases m with
    | nil =>
      obtain ⟨va, vc, rfl⟩ : ∃ va vc, u = .slice va 0 vc := by
        rcases HS.out.row with ⟨rfl, -⟩ | ⟨g, off, cap, rfl, -⟩
        · exact ⟨none, 0, rfl⟩
        · exact ⟨_, _, rfl⟩
      go_wp2_with fail
      go_ret
      exact FIN.out rfl
    | cons p m =>
      obtain ⟨g, off, vc, rfl, hvc, hgx, hgl, hrd⟩ := HS.out.row.resolve_left (fun h => by cases h.2)
      obtain ⟨x, hpx⟩ : ∃ x, p.1 = x := ⟨_, rfl⟩
      obtain ⟨y, hpy⟩ : ∃ y, p.2.1 = y := ⟨_, rfl⟩
      have c1 : wr.cell? ⟨g, off, none⟩ = some (.int .i64 x) := by have := (hrd 0 (by simp)).1; simpa [at3, hpx] using this
      have c2 : wr.cell? ⟨g, off + 1, none⟩ = some (.int .i64 y) := by have := (hrd 0 (by simp)).2; simpa [at3, hpy] using this
      obtain ⟨n, hml⟩ : ∃ n, (p :: m).length = n + 1 := ⟨m.length, rfl⟩
      have hmn : m.length = n := by simpa using hml
      rw [hml] at c0 hvc hlen
      have HML := Lib.hid hml
      have HMN := Lib.hid hmn
      have HPX := Lib.hid hpx
      have HPY := Lib.hid hpy
      have HRD := Lib.hid hrd
      clear hml hmn hpx hpy hrd
      by_cases hle : x ≤ now
      · have e1 : decide (x ≤ now) = true := by simpa using hle
        have e2 : (0 : Int) < ((n + 1 : Nat) : Int) := by omega
        have xl : xs.length ≤ 200 := by omega
        obtain ⟨i0, hi, hz0, hz1, hz2⟩ := info_parts info_int
        have hgs : w.heap.size ≤ wr.heap.size := HC.out.1.size
        go_wp2_with (at_builtin; refine wpList_append_mine _ rfl (.tmp 23) (.tmp 31) 37 rfl w.heap.size 3 i0 (.int .i64 0) 1 8 Tryz.underlying37 hi hz0 hz1 hz2 rfl (by decide) _ _ _ rfl (HX.out.alloc _) ⟨wr.heap.size, 0, none⟩ 1 1 [.int .i64 y] rfl rfl (one_new _ _ _) (one_cell rfl) (by unfold maxLen; omega) (by omega) (row_alloc_base wr _ hgs) (by omega) ?_)
        intro g' cap' w3 hown hgrow hor hbg hlt' hc1 hc2
        have HO3 := Lib.hid hown
        have C3 : Hid (Chg (fun i => u5.ownBlock = some i) wr w3) := Lib.hid (Chg.trans ((Ex.made wr _).chg (fun i => u5.ownBlock = some i)) (Chg.grown (F := fun i => u5.ownBlock = some i) hgrow (fun i hi => hi)) (fun _ _ h => h))
        have R3 : Hid (Rt w3 xb xo (.slice (some ⟨g, off, none⟩) (n + 1) vc) (p :: m)) := Lib.hid (by
          have := HS.out.chg (F := fun i => u5.ownBlock = some i) ?_ ?_ C3.out
          · rw [HML.out] at this; exact this
          · intro h
            have := row_base HX.out _ h
            have := H.out.lt
            omega
          · intro q hq h
            have := row_base HX.out _ h
            have := (H.out.own q (HU.out q hq)).2
            omega)
        clear hown hgrow hor c0 c1 c2 s0
        have c0 := R3.out.cell
        have s0 := R3.out.soft
        go_wp2_with fail
        obtain ⟨ao, hao⟩ : ∃ ao, (if vc = 1 then some (⟨g, off, none⟩ : Addr) else some ⟨g, off + 2, none⟩) = ao := ⟨_, rfl⟩
        rw [hao]
        go_roundw
        case rel =>
          have hwl : xb < w3.heap.size := R3.out.lt
          have hn2 := HMN.out
          have hgw : g < w3.heap.size := Nat.lt_of_lt_of_le hgl C3.out.size
          have hrow : ∃ u, u = Value.slice ao n (vc - 1) ∧ Rt (w3.setCell ⟨xb, xo, none⟩ u) xb xo u m ∧ ∀ q, u.ownBlock = some q → q = g := by
            refine ⟨_, rfl, ⟨?_, ?_, ?_, ?_⟩, ?_⟩
            · go_simp
            · rw [World.frozen?_setCell]; exact R3.out.soft
            · simpa [World.setCell] using hwl
            · refine .inr ⟨g, if vc = 1 then off else off + 2, vc - 1, ?_, by omega, hgx, by simpa [World.setCell] using hgw, ?_⟩
              · rw [hn2, ← hao]; split <;> rfl
              · intro i hi
                rw [if_neg (by omega)]
                have hb : (w3.setCell ⟨xb, xo, none⟩ (.slice ao n (vc - 1))).heap[g]? = w3.heap[g]? := heap_setCell_other w3 ⟨xb, xo, none⟩ g _ hgx
                have k1 := (HRD.out.ex hgl (Ex.refl wr)) (i + 1) (by simp; omega)
                have hrd3 : Rd w3 g off (p :: m) := HRD.out.chg hgl (fun h => by have := row_base HX.out _ h; have := (H.out.own g (HU.out g rfl)).2; omega) C3.out
                obtain ⟨q1, q2⟩ := hrd3 (i + 1) (by simp; omega)
                have e1 : at3 (p :: m) (i + 1) = at3 m i := by simp [at3]
                rw [e1] at q1 q2
                constructor
                · simp only [World.cell?, hb] at q1 ⊢
                  rw [show off + 2 + i * 2 = off + (i + 1) * 2 by omega]; exact q1
                · simp only [World.cell?, hb] at q2 ⊢
                  rw [show off + 2 + i * 2 + 1 = off + (i + 1) * 2 + 1 by omega]; exact q2
            · intro q hq
              rw [← hao] at hq
              split at hq <;> (cases hq; rfl)
          obtain ⟨u, hu, hrt, hq⟩ := hrow
          have hwx : xb < w.heap.size := H.out.lt
          refine ⟨m, xs ++ [y], u, hu ▸ hrt, fun q h => ?_, ?_, ?_, ?_, ?_⟩
          · obtain rfl := hq q h
            exact HU.out q rfl
          · simp only [List.length_append, List.length_singleton]; omega
          · rw [List.length_append, show intsZ (xs ++ [y]) = intsZ xs ++ [.int .i64 y] by simp [intsZ]]
            exact row_chg HO3.out (Chg.cell (F := fun i => i = xb) w3 ⟨xb, xo, none⟩ _ rfl) (fun q h e => by have := row_base HO3.out q h; omega)
          · exact HC.out.next H.out.lt (C3.out.weak (fun i _ hi => row_base HX.out i hi)) _
          · rw [← HE.out]
            have : rdueL now (p :: m) = (y :: (rdueL now m).1, (rdueL now m).2) := by rw [rdueL, if_pos (by rw [HPX.out]; exact hle), HPY.out]
            rw [this]
            simp
        case measure =>
          rw [show lenOf (.slice (some ⟨g', 0, none⟩) (xs.length + 1) cap') = xs.length + 1 from rfl]
          have : lenOf u5 = xs.length := by
            rcases row_shape HX.out with ⟨h1, -, h3⟩ | ⟨g2, cap2, h1, -⟩
            · subst h1
              have : xs.length = 0 := by
                have := congrArg List.length h3
                simpa [intsZ] using this
              rw [this]; rfl
            · subst h1; rfl
          omega
      · have e1 : decide (x ≤ now) = false := by simp; omega
        have e2 : (0 : Int) < ((n + 1 : Nat) : Int) := by omega
        go_wp2_with fail
        go_ret
        exact FIN.out (by rw [rdueL, if_neg (by rw [HPX.out]; omega)])

end Go.Proofs.YtmlobpapjfkbmaaGreat.T13

/- The document's timers are the sorted list (part of Plays13P). -/
namespace Go.Proofs.YtmlobpapjfkbmaaGreat.T13
open Go.RowKit
set_option linter.unusedVariables false
set_option maxRecDepth 20000

def Up (S : List T3) : Prop := S.Pairwise (fun p q => p.1 ≤ q.1)
theorem ins_split (p : T3) : ∀ (A B : List T3), (∀ a ∈ A, a.1 ≤ p.1) → (∀ b ∈ B, p.1 < b.1) → insT p (A ++ B) = A ++ p :: B
  | [], [], _, _ => rfl
  | [], b :: B, _, h => by simp [insT, h b (by simp)]
  | a :: A, B, h1, h2 => by
    have ha := h1 a (by simp)
    rw [List.cons_append, insT, if_neg (by omega), ins_split p A B (fun x hx => h1 x (by simp [hx])) h2]
    rfl
theorem cut_spec (L : List T3) (x : Int) : ∀ n, (∀ j, cutT L x n ≤ j → j < n → x < (at3 L j).1) ∧ (cutT L x n = 0 ∨ (at3 L (cutT L x n - 1)).1 ≤ x)
  | 0 => ⟨fun j _ h => by omega, .inl rfl⟩
  | n + 1 => by
    unfold cutT
    split
    · obtain ⟨h1, h2⟩ := cut_spec L x n
      refine ⟨fun j hj hn => ?_, h2⟩
      rcases Nat.lt_or_ge j n with h | h
      · exact h1 j hj h
      · obtain rfl : j = n := by omega
        assumption
    · exact ⟨fun j hj hn => by omega, .inr (by simpa using by omega)⟩
theorem addR_ins {S : List T3} (h : Up S) (p : T3) : addR p S = insT p S := by
  obtain ⟨K, hK⟩ : ∃ K, cutT S p.1 S.length = K := ⟨_, rfl⟩
  obtain ⟨h1, h2⟩ := cut_spec S p.1 S.length
  have hle := cutT_le S p.1 S.length
  unfold addR
  rw [hK] at h1 h2 hle ⊢
  have key := ins_split p (S.take K) (S.drop K) ?_ ?_
  · rw [List.take_append_drop] at key
    exact key.symm
  · intro a ha
    obtain ⟨j, hj, rfl⟩ := List.getElem_of_mem ha
    rw [List.length_take] at hj
    rw [List.getElem_take]
    have h3 : (at3 S (K - 1)).1 ≤ p.1 := h2.resolve_left (by omega)
    have hk : K - 1 < S.length := by omega
    have e : at3 S (K - 1) = S[K - 1] := by simp [at3, hk]
    rw [e] at h3
    rcases Nat.lt_or_ge j (K - 1) with hlt | hge
    · have := List.pairwise_iff_getElem.1 h j (K - 1) (by omega) hk hlt
      omega
    · obtain rfl : j = K - 1 := by omega
      exact h3
  · intro b hb
    obtain ⟨j, hj, rfl⟩ := List.getElem_of_mem hb
    rw [List.length_drop] at hj
    rw [List.getElem_drop]
    have := h1 (K + j) (by omega) (by omega)
    simpa [at3, show K + j < S.length by omega] using this
theorem up_ins (p : T3) : ∀ {S : List T3}, Up S → Up (insT p S)
  | [], _ => by simp [insT, Up]
  | q :: l, h => by
    have h' := List.pairwise_cons.1 h
    unfold insT
    split
    · refine List.pairwise_cons.2 ⟨fun r hr => ?_, h⟩
      rcases List.mem_cons.1 hr with rfl | hr
      · omega
      · have := h'.1 r hr; omega
    · refine List.pairwise_cons.2 ⟨fun r hr => ?_, up_ins p h'.2⟩
      have := (insT_perm p l).mem_iff.1 hr
      rcases List.mem_append.1 this with hr | hr
      · exact h'.1 r hr
      · obtain rfl : r = p := by simpa using hr
        omega
theorem insT_len (p : T3) (S : List T3) : (insT p S).length = S.length + 1 := by
  have := (insT_perm p S).length_eq
  simpa using this
theorem rdueL_is (now : Int) : ∀ {S : List T3}, Up S → rdueL now S = ((dueS now S).map (fun p => p.2.1), leftS now S)
  | [], _ => rfl
  | p :: l, h => by
    have h' := List.pairwise_cons.1 h
    have ih := rdueL_is now h'.2
    unfold dueS leftS at ih ⊢
    by_cases hp : p.1 ≤ now
    · rw [rdueL, if_pos hp, ih]
      have : ¬ now < p.1 := by omega
      simp [hp, this]
    · rw [rdueL, if_neg hp]
      have hl : ∀ q ∈ l, now < q.1 := fun q hq => by have := h'.1 q hq; omega
      have e1 : (p :: l).filter (fun p => decide (p.1 ≤ now)) = [] := by
        rw [List.filter_eq_nil_iff]
        intro q hq
        rcases List.mem_cons.1 hq with rfl | hq
        · simpa using by omega
        · have := hl q hq; simpa using this
      have e2 : (p :: l).filter (fun p => decide (now < p.1)) = p :: l := by
        rw [List.filter_eq_self]
        intro q hq
        rcases List.mem_cons.1 hq with rfl | hq
        · simpa using by omega
        · have := hl q hq; simpa using this
      rw [e1, e2]
      rfl

end Go.Proofs.YtmlobpapjfkbmaaGreat.T13

