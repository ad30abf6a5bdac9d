/- The document's timers: what they hold; appends of timers in a region that draws. -/
import Derived.Test.YtofdlbnlfeocoaaHeapLaw13
import Derived.Test.YtofdlbnlfeocoaaLast13
import Derived.Deep.RegionHeld3
import Derived.Maps.AppendAt
import Derived.Laws.CopyOwn
namespace Go.Proofs.Ytofdlbnlfeocoaa
open Go.RowKit
set_option linter.unusedVariables false
set_option linter.unusedSimpArgs false

theorem ex_drw (w : World) : Ex w w.drew := Ex.drawn w 1

/-- The two cells of each. -/
def cellsR : List T3 → List Value
  | [] => []
  | p :: l => .int .i64 p.1 :: .int .i64 p.2.1 :: cellsR l
theorem cellsR_length : ∀ l, (cellsR l).length = l.length * 2
  | [] => rfl
  | p :: l => by simp [cellsR, cellsR_length l]; omega
theorem cellsR_append : ∀ a b, cellsR (a ++ b) = cellsR a ++ cellsR b
  | [], b => rfl
  | p :: l, b => by simp [cellsR, cellsR_append l b]
theorem cellsR_at : ∀ (l : List T3) (k : Nat) (h : k < l.length), (cellsR l)[k * 2]? = some (.int .i64 l[k].1) ∧ (cellsR l)[k * 2 + 1]? = some (.int .i64 l[k].2.1)
  | [], k, h => by simp at h
  | p :: l, 0, h => by simp [cellsR]
  | p :: l, k + 1, h => by
    have ih := cellsR_at l k (by simpa using h)
    rw [show (k + 1) * 2 = k * 2 + 2 by omega, show k * 2 + 2 + 1 = k * 2 + 1 + 2 by omega]
    simpa [cellsR] using ih
theorem cellsR_one (l : List T3) : ∀ u ∈ cellsR l, u.oneCell' = true := by
  induction l with
  | nil => intro u hu; cases hu
  | cons p l ih =>
    intro u hu
    simp only [cellsR, List.mem_cons] at hu
    rcases hu with rfl | rfl | hu
    · rfl
    · rfl
    · exact ih u hu
theorem infoR : (Try.prog.info? 45).map (fun i => (i.zero, i.size, i.bytes)) = some (some (.agg #[.int .i64 0, .int .i64 0]), 2, 16) := by kernel_rfl

/-- Timers that can be read off a slice's block, cell by cell. -/
def Rd (w : World) (g off : Nat) (L : List T3) : Prop := ∀ i, i < L.length → w.cell? ⟨g, off + i * 2, none⟩ = some (.int .i64 (at3 L i).1) ∧ w.cell? ⟨g, off + i * 2 + 1, none⟩ = some (.int .i64 (at3 L i).2.1)

/-- The document's timers in the block xb: a slice of L. -/
structure Rt (w : World) (xb : Nat) (v : Value) (L : List T3) : Prop where
  cell : w.cell? ⟨xb, 0, none⟩ = some v
  soft : w.frozen? ⟨xb, 0, none⟩ = false
  lt : xb < w.heap.size
  row : (v = .slice none 0 0 ∧ L = []) ∨ ∃ g off cap, v = .slice (some ⟨g, off, none⟩) L.length cap ∧ L.length ≤ cap ∧ g ≠ xb ∧ g < w.heap.size ∧ Rd w g off L

theorem Rd.ex {w w' : World} {g off : Nat} {L : List T3} (h : Rd w g off L) (hg : g < w.heap.size) (x : Ex w w') : Rd w' g off L := fun i hi =>
  ⟨(x.cell (p := ⟨g, off + i * 2, none⟩) hg).trans (h i hi).1, (x.cell (p := ⟨g, off + i * 2 + 1, none⟩) hg).trans (h i hi).2⟩
theorem Rd.chg {w w' : World} {g off : Nat} {L : List T3} {F : Nat → Prop} (h : Rd w g off L) (hg : g < w.heap.size) (hF : ¬ F g) (x : Chg F w w') : Rd w' g off L := fun i hi => by
  have hb := x.block g hg hF
  constructor
  · have := (h i hi).1
    simp only [World.cell?, hb] at this ⊢
    exact this
  · have := (h i hi).2
    simp only [World.cell?, hb] at this ⊢
    exact this
theorem Rt.chg {w w' : World} {xb : Nat} {v : Value} {L : List T3} {F : Nat → Prop} (h : Rt w xb v L) (hx : ¬ F xb) (hF : ∀ g, v.ownBlock = some g → ¬ F g) (x : Chg F w w') : Rt w' xb v L := by
  have hb := x.block xb h.lt hx
  refine ⟨?_, ?_, Nat.lt_of_lt_of_le h.lt x.size, ?_⟩
  · have := h.cell
    simp only [World.cell?, hb] at this ⊢
    exact this
  · have := h.soft
    simp only [World.frozen?, hb] at this ⊢
    exact this
  · rcases h.row with h1 | ⟨g, off, cap, h1, h2, h3, h4, h5⟩
    · exact .inl h1
    · refine .inr ⟨g, off, cap, h1, h2, h3, Nat.lt_of_lt_of_le h4 x.size, h5.chg h4 (hF g (by rw [h1]; rfl)) x⟩
theorem Rt.ex {w w' : World} {xb : Nat} {v : Value} {L : List T3} (h : Rt w xb v L) (x : Ex w w') : Rt w' xb v L := h.chg (F := fun _ => False) (fun h => h) (fun _ _ h => h) (x.chg _)

/-- A row of the region's own, in a later world. -/
structure CT (Y0 Y : World) (v : Value) (L : List T3) : Prop where
  ex : Ex Y0 Y
  row : Y.ownsRow Y0.heap.size 45 2 v L.length (cellsR L)
theorem CT.base {Y0 Y : World} {v : Value} {L : List T3} (h : CT Y0 Y v L) (q : Nat) (hq : v.ownBlock = some q) : Y0.heap.size ≤ q ∧ q < Y.heap.size := by
  rcases row_shape h.row with ⟨h1, -, -⟩ | ⟨g, cap, h1, h2, h3, -⟩
  · subst h1; cases hq
  · subst h1; cases hq; exact ⟨h2, h3⟩
theorem CT.shape {Y0 Y : World} {v : Value} {L : List T3} (h : CT Y0 Y v L) : ∃ a n c, v = .slice a n c := by
  rcases row_shape h.row with ⟨rfl, -⟩ | ⟨g, cap, rfl, -⟩
  · exact ⟨_, _, _, rfl⟩
  · exact ⟨_, _, _, rfl⟩
theorem CT.lit {Y0 Y : World} (h : Ex Y0 Y) : CT Y0 (Y.alloc (.cells #[] 45)) (.slice (some ⟨Y.heap.size, 0, none⟩) 0 0) [] :=
  ⟨h.trans (Ex.made Y _), rfl, .inr ⟨Y.heap.size, 0, #[], rfl, h.size, heap_alloc_new Y _, Nat.le_refl _, by unfold maxLen; omega, rfl, rfl⟩⟩
theorem CT.made {Y0 Y : World} {v : Value} {L : List T3} (h : CT Y0 Y v L) (o : Obj) : CT Y0 (Y.alloc o) v L := ⟨h.ex.trans (Ex.made Y o), World.ownsRow.alloc h.row o⟩
theorem CT.new {Y0 Y : World} {v : Value} {L : List T3} (h : CT Y0 Y v L) : v.ownBlock ≠ some Y.heap.size := fun e => by have := (h.base _ e).2; omega
theorem CT.grow {Y0 Y Y' : World} {v v' : Value} {L M : List T3} (h : CT Y0 Y v L) (hr : Y'.ownsRow Y0.heap.size 45 2 v' M.length (cellsR M)) (hg : Y.grownBy Y' v.ownBlock) : CT Y0 Y' v' M :=
  ⟨Below.grown h.ex hg h.ex.size (fun k hk => (h.base k hk).1), hr⟩
theorem box_far {Y Y' : World} {v : Value} {nb : Nat} {cs : Array Value} {t : TypeId} (h : Box Y nb cs t) (hne : v.ownBlock ≠ some nb) (hg : Y.grownBy Y' v.ownBlock) : Box Y' nb cs t :=
  (hg.block nb h.lt (fun e => hne e.symm)).trans h
theorem own_far {Y : World} {v v' : Value} {nb : Nat} {cs : Array Value} {t : TypeId} (h : Box Y nb cs t) (hne : v.ownBlock ≠ some nb) (hat : v'.ownBlock = v.ownBlock ∨ v'.ownBlock = some Y.heap.size) : v'.ownBlock ≠ some nb := by
  rcases hat with e | e
  · rw [e]; exact hne
  · rw [e]; intro h'; have := h.lt; cases h'; omega
theorem box_news2 {Y : World} {nb : Nat} {p : T3} (h : Box Y nb #[.int .i64 p.1, .int .i64 p.2.1] 45) : ∀ (j : Nat) (u : Value), (cellsR [p])[j]? = some u → Y.cell? ((⟨nb, 0, none⟩ : Addr).add j) = some u := by
  intro j u hj
  rw [show (⟨nb, 0, none⟩ : Addr).add j = ⟨nb, j, none⟩ by simp [Addr.add]; exact fun h => h.symm, h.cell j]
  simpa [cellsR] using hj

/-- append of any number of timers at a step of a region that draws. -/
theorem step_append_ct {ops : Array Oper} {o : Oper} {a : Act} {K : Act → World → Prop} {Q : Exit → Act → World → Prop} {E : Prop} {Y0 Y : World} {v : Value} {L : List T3} (hgd : o.guard = none) (s x : Operand) (t : TypeId)
    (ho : o.op = .call { callee := .builtin .append, args := #[s, x], argTypes := #[t, t] }) (h : CT Y0 Y v L) (hs : a.eval s = v) (ao : Option Addr) (m c : Nat) (hx : a.eval x = .slice ao m c) (M : List T3) (hl : M.length = m)
    (hnone : ao = none → m = 0 ∧ c = 0) (hc : ∀ ad, ao = some ad → ∀ j u, (cellsR M)[j]? = some u → Y.cell? (ad.add j) = some u) (hb : L.length + m ≤ 1000)
    (k : ∀ v' Y', CT Y0 Y' v' (L ++ M) → Y.grownBy Y' v.ownBlock → (v'.ownBlock = v.ownBlock ∨ v'.ownBlock = some Y.heap.size) → K (a.put o.dst v') Y') (ht : Try.prog.underlying t = some (.slice 45) := by kernel_rfl) :
    if Region.wanted o (yielded ops a.tmps) = true then Oper.wp Try.prog o a Y K Q else E := by
  have hw : Region.wanted o (yielded ops a.tmps) = true := by simp [Region.wanted, hgd]
  rw [if_pos hw]
  obtain ⟨i0, hi, hz0, hz1, hz2⟩ := info_parts infoR
  subst hl
  have key : ∃ v' Y', (Builtin.append_ #[t, t] o.type #[v, .slice ao M.length c]).run Try.prog Y = .ok v' Y' ∧ CT Y0 Y' v' (L ++ M) ∧ Y.grownBy Y' v.ownBlock ∧ (v'.ownBlock = v.ownBlock ∨ v'.ownBlock = some Y.heap.size) := by
    cases ao with
    | some ad =>
      obtain ⟨v', w', hr, h2, h3, h4, h5⟩ := run_append_own_at (P := Try.prog) Y Y0.heap.size t o.type 45 i0 (.agg #[.int .i64 0, .int .i64 0]) 2 16 ht hi hz0 hz1 hz2 rfl (by decide) v L.length (cellsR L) h.row ad M.length c (cellsR M) (cellsR_length M) (hc ad rfl) (cellsR_one M) (by unfold maxLen; omega) (by omega) h.ex.size
      refine ⟨v', w', hr, h.grow ?_ h3, h3, h5⟩
      rw [List.length_append, cellsR_append]
      exact h2
    | none =>
      obtain ⟨hm, rfl⟩ := hnone rfl
      have hn : M = [] := List.eq_nil_of_length_eq_zero hm
      subst hn
      refine ⟨v, Y, ?_, by rw [List.append_nil]; exact h, ⟨rfl, rfl, rfl, Nat.le_refl _, fun _ _ _ => rfl⟩, .inl rfl⟩
      rcases row_shape h.row with ⟨rfl, h2, h3⟩ | ⟨g, cap, rfl, -⟩
      · simp [Builtin.append_, run_underlying ht, sizeOf, typeInfo, hi, Builtin.lenOf, Builtin.firstCells, loadCells, loadCellsFrom]
      · exact run_append_owned_none (P := Try.prog) Y Y0.heap.size t o.type 45 i0 2 ht hi _ _ _ h.row
  obtain ⟨v', Y', hr, h2, h3, h4⟩ := key
  unfold Oper.wp execOp
  simp only [ho, resolve, invoke, builtin, Sem.run_bind, Sem.run_pure, Result.andThen_ok, List.map_toArray, List.map_cons, List.map_nil, hs, hx, hr]
  exact k v' Y' h2 h3 h4

/-- The row is the old one's block or a new one. -/
def NewB (w : World) (v v' : Value) : Prop := ∀ g, v'.ownBlock = some g → v.ownBlock = some g ∨ w.heap.size ≤ g

/-- The last step: the row is laid into the block. -/
theorem step_store_ct {ops : Array Oper} {o : Oper} {a : Act} {K : Act → World → Prop} {Q : Exit → Act → World → Prop} {E : Prop} {Y : World} {xb : Nat} {u0 : Value} {sa : Option Addr} {sn sc : Nat} (hgd : o.guard = none) (hd : o.dst = none) (x v : Operand)
    (ho : o.op = .store 37 x v) (hp : a.eval x = .pointer (some ⟨xb, 0, none⟩)) (hv : a.eval v = .slice sa sn sc) (c : Y.cell? ⟨xb, 0, none⟩ = some u0) (s : Y.frozen? ⟨xb, 0, none⟩ = false)
    (k : K a (Y.setCell ⟨xb, 0, none⟩ (.slice sa sn sc))) : if Region.wanted o (yielded ops a.tmps) = true then Oper.wp Try.prog o a Y K Q else E := by
  have hw : Region.wanted o (yielded ops a.tmps) = true := by simp [Region.wanted, hgd]
  rw [if_pos hw]
  unfold Oper.wp execOp
  simp only [ho, hp, hv]
  go_simp
  exact k

theorem heldL_store_ct {ops : Array Oper} {a : Act} {Q : Exit → Act → World → Prop} {S : World → Prop} {Y : World} {xb n fuel : Nat} {listed : Array Bool} {u0 : Value} {sa : Option Addr} {sn sc : Nat} (p q : Tmp)
    (hr : Region.ready .any ops listed = [n]) (hr2 : Region.ready .any ops (listed.setIfInBounds n true) = [])
    (ho : (ops[n]?).map (fun o => (o.op, o.guard, o.dst)) = some (.store 37 (.tmp p) (.tmp q), none, none)) (hp : a.eval (.tmp p) = .pointer (some ⟨xb, 0, none⟩)) (hv : a.eval (.tmp q) = .slice sa sn sc)
    (c : Y.cell? ⟨xb, 0, none⟩ = some u0) (s : Y.frozen? ⟨xb, 0, none⟩ = false)
    (k : Q .normal a (Y.setCell ⟨xb, 0, none⟩ (.slice sa sn sc))) : HeldL Try.prog .any ops Q S n (fuel + 1) listed a Y := by
  cases hi : ops[n]? with
  | none => rw [hi] at ho; cases ho
  | some o =>
    rw [hi] at ho
    simp only [Option.map_some, Option.some.injEq, Prod.mk.injEq] at ho
    obtain ⟨ho, hgd, hd⟩ := ho
    refine heldL_last hr hr2 (wpOp_step hi fun K' hK => ?_)
    refine step_store_ct hgd hd _ _ ho hp hv c s ?_
    exact hK _ _ k

theorem rt_store {Y0 Y : World} {xb : Nat} {v v3 : Value} {L M : List T3} (h : Rt Y0 xb v L) (c : CT Y0 Y v3 M) : Rt (Y.setCell ⟨xb, 0, none⟩ v3) xb v3 M ∧ Chg (fun i => i = xb) Y0 (Y.setCell ⟨xb, 0, none⟩ v3) ∧ ∀ g, v3.ownBlock = some g → Y0.heap.size ≤ g := by
  have hx := h.ex c.ex
  have hs : (Y.setCell ⟨xb, 0, none⟩ v3).heap.size = Y.heap.size := by simp [World.setCell]
  have hc : (Y.setCell ⟨xb, 0, none⟩ v3).cell? ⟨xb, 0, none⟩ = some v3 := by
    have := hx.cell
    go_simp
  refine ⟨⟨hc, by rw [World.frozen?_setCell]; exact hx.soft, by rw [hs]; exact hx.lt, ?_⟩, ((c.ex.chg (fun i => i = xb)).trans (Chg.cell (F := fun i => i = xb) Y ⟨xb, 0, none⟩ v3 rfl) (fun _ _ h => h)), fun g hg => (c.base g hg).1⟩
  rcases row_shape c.row with ⟨h1, h2, -⟩ | ⟨g, cap, h1, h2, h3, h4, -⟩
  · exact .inl ⟨h1, List.eq_nil_of_length_eq_zero h2⟩
  · have hne : g ≠ xb := by have := h.lt; omega
    refine .inr ⟨g, 0, cap, h1, h4, hne, by rw [hs]; exact h3, fun i hi => ?_⟩
    have hr := c.row
    rw [h1] at hr
    obtain ⟨e1, e2⟩ := cellsR_at M i hi
    have em : M[i] = at3 M i := by simp [at3, hi]
    rw [em] at e1 e2
    have hb : (Y.setCell ⟨xb, 0, none⟩ v3).heap[g]? = Y.heap[g]? := heap_setCell_other Y ⟨xb, 0, none⟩ g v3 hne
    constructor
    · have := World.ownsRow.cellAt hr (i * 2) (by omega)
      simp only [World.cell?, hb, Nat.zero_add] at this ⊢
      rw [this, e1]
    · have := World.ownsRow.cellAt hr (i * 2 + 1) (by omega)
      simp only [World.cell?, hb, Nat.zero_add] at this ⊢
      rw [this, e2]

theorem rnews {W : World} {g off : Nat} {L : List T3} (hc : Rd W g off L) (K : Nat) (M : List T3) (hM : ∀ j, j < M.length → K + j < L.length ∧ at3 M j = at3 L (K + j)) (ad : Addr) (had : 0 < M.length → ad = ⟨g, off + K * 2, none⟩) :
    ∀ (j : Nat) (u : Value), (cellsR M)[j]? = some u → W.cell? (ad.add j) = some u := by
  intro j u hj
  have hlt : j < M.length * 2 := by
    have := (List.getElem?_eq_some_iff.1 hj).1
    rwa [cellsR_length] at this
  have hj2 : j / 2 < M.length := by omega
  obtain ⟨h1, h2⟩ := hM (j / 2) hj2
  obtain ⟨c1, c2⟩ := hc (K + j / 2) h1
  obtain ⟨e1, e2⟩ := cellsR_at M (j / 2) hj2
  have em : M[j / 2] = at3 M (j / 2) := by simp [at3, hj2]
  rw [em, h2] at e1 e2
  rw [had (by omega), Addr.add_lit]
  rcases (by omega : j = j / 2 * 2 ∨ j = j / 2 * 2 + 1) with e | e
  · rw [← e, hj] at e1
    rw [show off + K * 2 + j = off + (K + j / 2) * 2 by omega, c1, ← e1]
  · rw [← e, hj] at e2
    rw [show off + K * 2 + j = off + (K + j / 2) * 2 + 1 by omega, c2, ← e2]

end Go.Proofs.Ytofdlbnlfeocoaa
