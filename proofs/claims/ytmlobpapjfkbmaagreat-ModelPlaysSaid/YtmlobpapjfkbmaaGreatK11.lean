/- Part 11 of what is proved of the program of layer 16: RchP16, Reach16, OpM16, Inv16, Fit16, Do16. -/
import Derived.Test.YtmlobpapjfkbmaaGreatK6
import Derived.Test.YtmlobpapjfkbmaaGreatK10
import Derived.Test.YtmlobpapjfkbmaaGreatK9
import Derived.Test.YtmlobpapjfkbmaaGreatK5
/- What can be reached: plain. -/
namespace Go.Proofs.YtmlobpapjfkbmaaGreat
set_option linter.unusedVariables false
set_option maxRecDepth 20000

def stacksTo (m : MS) (l : List Nat) : List Nat := (l.map (fun g => (m.at g).stack)).flatten
def rootsM (m : MS) : List Nat := m.globals ++ stacksTo m (S12.aliveTo m.st m.st.length)
inductive Rch (m : MS) : Nat → Prop
  | root {i : Nat} : i ∈ rootsM m → i ≠ 0 → Rch m i
  | step {i j : Nat} : Rch m i → j ∈ m.slots.getD i [] → j ≠ 0 → Rch m j
open Classical in
noncomputable def rchL (m : MS) : List Nat := (List.range m.slots.length).filter (fun i => decide (Rch m i))

structure RInv (m : MS) (T : List Nat) (S : List Bool) : Prop where
  len : S.length = m.slots.length
  ok : ∀ i, S.getD i false = true → Rch m i
  tod : ∀ x ∈ T, x = 0 ∨ Rch m x
  lt : ∀ x ∈ T, x < m.slots.length
  root : ∀ i ∈ rootsM m, i = 0 ∨ S.getD i false = true ∨ i ∈ T
  cl : ∀ i, S.getD i false = true → ∀ x ∈ m.slots.getD i [], x = 0 ∨ S.getD x false = true ∨ x ∈ T

theorem RInv.start {m : MS} (h : ∀ x ∈ rootsM m, x < m.slots.length) : RInv m (rootsM m) (List.replicate m.slots.length false) := by
  have hf : ∀ i, (List.replicate m.slots.length false).getD i false = false := fun i => by
    rw [List.getD_eq_getElem?_getD, List.getElem?_replicate]; split <;> rfl
  refine ⟨by simp, fun i hi => ?_, fun x hx => ?_, h, fun i hi => .inr (.inr hi), fun i hi => ?_⟩
  · rw [hf] at hi; cases hi
  · by_cases e : x = 0
    · exact .inl e
    · exact .inr (.root hx e)
  · rw [hf] at hi; cases hi
theorem RInv.skip {m : MS} {T : List Nat} {S : List Bool} {x : Nat} (h : RInv m (T ++ [x]) S) (hx : x = 0 ∨ S.getD x false = true) : RInv m T S := by
  refine ⟨h.len, h.ok, fun y hy => h.tod y (List.mem_append_left _ hy), fun y hy => h.lt y (List.mem_append_left _ hy), fun i hi => ?_, fun i hi y hy => ?_⟩
  · rcases h.root i hi with e | e | e
    · exact .inl e
    · exact .inr (.inl e)
    · rcases List.mem_append.1 e with e | e
      · exact .inr (.inr e)
      · simp at e; subst e
        rcases hx with e | e
        · exact .inl e
        · exact .inr (.inl e)
  · rcases h.cl i hi y hy with e | e | e
    · exact .inl e
    · exact .inr (.inl e)
    · rcases List.mem_append.1 e with e | e
      · exact .inr (.inr e)
      · simp at e; subst e
        rcases hx with e | e
        · exact .inl e
        · exact .inr (.inl e)
theorem getD_set_b (S : List Bool) (x i : Nat) (hx : x < S.length) : (S.set x true).getD i false = if i = x then true else S.getD i false := by
  rw [List.getD_eq_getElem?_getD, List.getD_eq_getElem?_getD, List.getElem?_set]
  by_cases e : x = i
  · subst e; simp [hx]
  · rw [if_neg e, if_neg (fun h => e h.symm)]
theorem RInv.take {m : MS} {T : List Nat} {S : List Bool} {x : Nat} (h : RInv m (T ++ [x]) S) (h0 : x ≠ 0) (hr : ∀ y ∈ m.slots.getD x [], y < m.slots.length) : RInv m (T ++ m.slots.getD x []) (S.set x true) := by
  have hxl := h.lt x (by simp)
  have hxs : x < S.length := by rw [h.len]; exact hxl
  have hrx : Rch m x := (h.tod x (by simp)).resolve_left h0
  have hs := fun i => getD_set_b S x i hxs
  have up : ∀ y, (y = 0 ∨ S.getD y false = true ∨ y ∈ T ++ [x]) → (y = 0 ∨ (S.set x true).getD y false = true ∨ y ∈ T ++ m.slots.getD x []) := fun y hy => by
    rcases hy with e | e | e
    · exact .inl e
    · right; left; rw [hs]; split
      · rfl
      · exact e
    · rcases List.mem_append.1 e with e | e
      · exact .inr (.inr (List.mem_append_left _ e))
      · simp at e; subst e; right; left; rw [hs, if_pos rfl]
  refine ⟨by simp [h.len], fun i hi => ?_, fun y hy => ?_, fun y hy => ?_, fun i hi => up i (h.root i hi), fun i hi y hy => ?_⟩
  · rw [hs] at hi
    split at hi
    · next e => exact e ▸ hrx
    · exact h.ok i hi
  · rcases List.mem_append.1 hy with e | e
    · exact h.tod y (List.mem_append_left _ e)
    · by_cases e0 : y = 0
      · exact .inl e0
      · exact .inr (.step hrx e e0)
  · rcases List.mem_append.1 hy with e | e
    · exact h.lt y (List.mem_append_left _ e)
    · exact hr y e
  · rw [hs] at hi
    split at hi
    · next e => subst e; exact .inr (.inr (List.mem_append_right _ hy))
    · exact up y (h.cl i hi y hy)
theorem RInv.done {m : MS} {S : List Bool} (h : RInv m [] S) (i : Nat) : S.getD i false = true ↔ Rch m i := by
  refine ⟨h.ok i, fun r => ?_⟩
  induction r with
  | root h1 h2 => exact ((h.root _ h1).resolve_left h2).resolve_right (by simp)
  | step _ h1 h2 ih => exact ((h.cl _ ih _ h1).resolve_left h2).resolve_right (by simp)

/-- Those of the first k that are seen. -/
def seenTo (S : List Bool) (k : Nat) : List Nat := (List.range k).filter fun j => S.getD j false
theorem seen_hit {S : List Bool} {k : Nat} (h : S.getD k false = true) : seenTo S (k + 1) = seenTo S k ++ [k] := by
  simp only [seenTo, List.range_succ, List.filter_append]
  congr 1
  simp only [List.filter_cons, List.filter_nil]
  rw [if_pos h]
theorem seen_miss {S : List Bool} {k : Nat} (h : S.getD k false = false) : seenTo S (k + 1) = seenTo S k := by
  simp only [seenTo, List.range_succ, List.filter_append, List.filter_cons, List.filter_nil]
  rw [if_neg (by rw [h]; simp), List.append_nil]
theorem seen_le (S : List Bool) (k : Nat) : (seenTo S k).length ≤ k := by
  have := List.length_filter_le (fun j => S.getD j false) (List.range k)
  simpa [seenTo] using this
open Classical in
theorem RInv.out {m : MS} {S : List Bool} (h : RInv m [] S) : seenTo S m.slots.length = rchL m := by
  unfold seenTo rchL
  congr 1
  funext j
  have := h.done j
  cases e : S.getD j false
  · symm; rw [decide_eq_false_iff_not]; intro r; rw [this.2 r] at e; cases e
  · symm; rw [decide_eq_true_iff]; exact this.1 e

def sumTo (f : Nat → Nat) : Nat → Nat
  | 0 => 0
  | n + 1 => sumTo f n + f n
theorem sumTo_le {f g : Nat → Nat} (h : ∀ i, f i ≤ g i) : ∀ n, sumTo f n ≤ sumTo g n
  | 0 => Nat.le_refl _
  | n + 1 => Nat.add_le_add (sumTo_le h n) (h n)
theorem sumTo_same {f g : Nat → Nat} : ∀ n, (∀ i, i < n → f i = g i) → sumTo f n = sumTo g n
  | 0, _ => rfl
  | n + 1, h => by simp only [sumTo]; rw [sumTo_same n (fun i hi => h i (by omega)), h n (by omega)]
theorem sumTo_put {f g : Nat → Nat} {x : Nat} (h : ∀ i, i ≠ x → g i = f i) : ∀ n, x < n → sumTo g n + f x = sumTo f n + g x
  | 0, hx => absurd hx (Nat.not_lt_zero _)
  | n + 1, hx => by
    simp only [sumTo]
    by_cases e : x = n
    · subst e
      rw [sumTo_same x (fun i hi => h i (by omega))]; omega
    · rw [h n (fun e2 => e e2.symm)]
      have := sumTo_put h n (by omega)
      omega
/-- What the objects hold that are not seen yet. -/
def us (m : MS) (S : List Bool) : Nat := sumTo (fun i => if S.getD i false = true then 0 else (m.slots.getD i []).length) m.slots.length
def total (m : MS) : Nat := sumTo (fun i => (m.slots.getD i []).length) m.slots.length
theorem us_le (m : MS) (S : List Bool) : us m S ≤ total m := sumTo_le (fun i => by split <;> omega) _
theorem us_put {m : MS} {S : List Bool} {x : Nat} (hx : x < m.slots.length) (hl : S.length = m.slots.length) (h : S.getD x false = false) : us m (S.set x true) + (m.slots.getD x []).length = us m S := by
  have hs := fun i => getD_set_b S x i (by omega)
  have := sumTo_put (f := fun i => if S.getD i false = true then 0 else (m.slots.getD i []).length) (g := fun i => if (S.set x true).getD i false = true then 0 else (m.slots.getD i []).length) (x := x) (fun i hi => by rw [hs, if_neg hi]) m.slots.length hx
  rw [hs, if_pos rfl, if_pos rfl, h, if_neg (by simp)] at this
  unfold us
  omega

/-- Who is named is there. -/
structure Ran (m : MS) : Prop where
  gl : ∀ x ∈ m.globals, x < m.slots.length
  sl : ∀ i, ∀ x ∈ m.slots.getD i [], x < m.slots.length
  tot : total m ≤ 500000

theorem stacks_le {m : MS} {n : Nat} (hs : ∀ g, g < m.gs.length → (m.at g).stack.length = 16) : ∀ l : List Nat, (∀ g ∈ l, g < m.gs.length) → (stacksTo m l).length = 16 * l.length
  | [], _ => rfl
  | g :: l, h => by
    have := stacks_le (n := n) hs l (fun g hg => h g (List.mem_cons_of_mem _ hg))
    simp only [stacksTo, List.map_cons, List.flatten_cons, List.length_append, List.length_cons] at this ⊢
    rw [hs g (h g (List.mem_cons_self ..))]; omega
theorem mem_val {x : GS} {v : Nat} (h : v ∈ x.stack) : ∃ a, a < x.stack.length ∧ x.val a = v := by
  obtain ⟨a, ha, e⟩ := List.mem_iff_getElem.1 h
  exact ⟨a, ha, by simp [GS.val, ha, e]⟩
theorem alive_lt {l : List Nat} {k g : Nat} (h : g ∈ S12.aliveTo l k) : g < k := by
  have := (List.mem_filter.1 h).1
  exact List.mem_range.1 this
theorem roots_lt {m : MS} (r : Ran m) (hst : m.st.length = m.gs.length) (hv : ∀ g, g < m.gs.length → ∀ a, (m.at g).val a < m.slots.length) : ∀ x ∈ rootsM m, x < m.slots.length := by
  intro x hx
  rcases List.mem_append.1 hx with h | h
  · exact r.gl x h
  · obtain ⟨l, hl, hxl⟩ := List.mem_flatten.1 h
    obtain ⟨g, hg, rfl⟩ := List.mem_map.1 hl
    obtain ⟨a, -, rfl⟩ := mem_val hxl
    exact hv g (by have := alive_lt hg; omega) a

end Go.Proofs.YtmlobpapjfkbmaaGreat

/- A model's Reach. -/
namespace Go.Proofs.YtmlobpapjfkbmaaGreat
open Go.RowKit
set_option linter.unusedVariables false
set_option maxRecDepth 20000
set_option linter.unusedSimpArgs false

def bools (S : List Bool) : List Value := S.map Value.bool
def lenV : Value → Nat
  | .slice _ n _ => n
  | _ => 0
def readB (w : World) (b n : Nat) : List Bool := (List.range n).map fun j => match w.cell? ⟨b, j, none⟩ with
  | some (.bool x) => x
  | _ => false
theorem readB_box {w : World} {b : Nat} {S : List Bool} (h : Box w b (bools S).toArray 4) {n : Nat} (hn : S.length = n) : readB w b n = S := by
  apply List.ext_getElem
  · simp [readB, hn]
  · intro j h1 h2
    have hc := h.cell j
    rw [show ((bools S).toArray[j]? : Option Value) = some (.bool S[j]) by simp [bools, h2]] at hc
    simp [readB, hc]
theorem bools_set (S : List Bool) (i : Nat) : (bools S).toArray.setIfInBounds i (.bool true) = (bools (S.set i true)).toArray := by
  simp [bools, List.map_set]
theorem info_bool : (Tryz.prog.info? 4).map (fun i => (i.zero, i.size, i.bytes)) = some (some (.bool false), 1, 1) := by kernel_rfl
theorem make_bools (w : World) (n : Nat) (hn : n ≤ 100000) : (Instr.makeSlice 95 (.int .i64 (n : Int)) (.int .i64 (n : Int))).run Tryz.prog w = .ok (.slice (some ⟨w.heap.size, 0, none⟩) n n) (w.alloc (.cells (bools (List.replicate n false)).toArray 4)) := by
  obtain ⟨i0, hi, hz0, hz1, hz2⟩ := info_parts info_bool
  rw [run_makeSlice (P := Tryz.prog) w 95 4 i0 (.bool false) Tryz.underlying95 hi hz0 .i64 .i64 n n (by omega) (by omega) (by rw [hz1]; omega) (by rw [hz2]; omega) (by omega)]
  rw [hz1, Int.toNat_natCast, Nat.mul_one]
  congr 3
  apply Array.ext_getElem?
  intro k
  by_cases h : k < n
  · simp [madeCells, bools, h, Value.cells, Nat.mod_one]
  · simp [madeCells, bools, h]

/-- Numbers of one's own. -/
def RowI (w : World) (B : Nat) (v : Value) (l : List Nat) : Prop := w.ownsRow B 3 1 v l.length (S12.ints l)
theorem wpList_append_I (w : World) {ops : Array Oper} {rest : List Oper} {o : Oper} {a : Act} {Q : Exit → Act → World → Prop} (hgd : o.guard = none) (s x : Operand)
    (ho : o.op = .call { callee := .builtin .append, args := #[s, x], argTypes := #[37, 37] }) {B : Nat} {v : Value} {l : List Nat} (hs : a.eval s = v) (h : RowI w B v l) (hB : B ≤ w.heap.size)
    {u : Value} {M : List Nat} (hu : a.eval x = u) (hx : Rn w u M) (hb : l.length + M.length ≤ 1000000)
    (k : ∀ v' w', RowI w' B v' (l ++ M) → w.grownBy w' v.ownBlock → (v'.ownBlock = v.ownBlock ∨ v'.ownBlock = some w.heap.size) → wpList Tryz.prog ops Q rest (a.put o.dst v') w') :
    wpList Tryz.prog ops Q (o :: rest) a w := wpList_append_ints w hgd s x ho hs h hB hu hx hb k
theorem rn_one (w : World) (k : Nat) : Rn (w.alloc (.cells #[.int .i64 (k : Nat)] 3)) (.slice (some ⟨w.heap.size, 0, none⟩) 1 1) [k] := by
  refine ⟨some ⟨w.heap.size, 0, none⟩, 1, rfl, (fun e => by cases e), Nat.le_refl _, fun j hj => ⟨w.heap.size, 0, rfl, by simp, ?_⟩⟩
  obtain rfl : j = 0 := by simpa using hj
  exact (Box.fresh w _ _).cell 0
theorem RowI.ex {w w' : World} {B : Nat} {v : Value} {l : List Nat} (h : RowI w B v l) (x : Ex w w') : RowI w' B v l := row_chg (F := fun _ => False) h (x.chg _) (fun _ _ h => h)
theorem RowI.base {w : World} {B B' : Nat} {v : Value} {l : List Nat} (h : RowI w B v l) (hB : B' ≤ B) : RowI w B' v l := by
  obtain ⟨h1, h2 | ⟨g, cap, cs, e, h3, h4⟩⟩ := h
  · exact ⟨h1, .inl h2⟩
  · exact ⟨h1, .inr ⟨g, cap, cs, e, Nat.le_trans hB h3, h4⟩⟩
theorem ex_put {w W : World} (x : Ex w W) {b : Nat} (hb : w.heap.size ≤ b) (j : Nat) (u : Value) : Ex w (W.setCell ⟨b, j, none⟩ u) :=
  ((x.chg (fun _ => False)).trans (Chg.cell (F := fun i => i = b) W ⟨b, j, none⟩ u rfl) (fun i hi h => absurd h (by omega))).below (Nat.le_refl _) (fun i hi => hi.elim)
theorem row_cut {w : World} {B g n cap : Nat} {l : List Nat} {x : Nat} (h : w.ownsRow B 3 1 (.slice (some ⟨g, 0, none⟩) (n + 1) cap) (l ++ [x]).length (S12.ints (l ++ [x]))) (hl : l.length = n) :
    w.ownsRow B 3 1 (.slice (some ⟨g, 0, none⟩) n cap) l.length (S12.ints l) := by
  rw [ints_append, show (l ++ [x]).length = n + 1 by simp [hl]] at h
  rw [hl]
  exact ownsRow_pop (by simp [S12.ints, hl]) h
/-- A goroutine's stack as a slice. -/
theorem stack_rn {w W : World} {A : Adr} {t : Nat → Tg} {mb : Nat} {F : Fns} {m : MS} (h : Md w A t mb F m) (x : Ex w W) {g : Nat} (hg : g < m.gs.length) (hl : (m.at g).stack.length = 16) : Rn W (.slice (some ⟨A.gb g, 3, none⟩) 16 16) (m.at g).stack := by
  have hb := (h.gor g hg).box.ex x
  refine ⟨some ⟨A.gb g, 3, none⟩, 16, by rw [hl], (fun e => by cases e), by omega, fun j hj => ⟨A.gb g, 3, rfl, hb.lt, ?_⟩⟩
  rw [hb.cell, gcells_at _ _ hj]
  rfl
theorem ex_grownI {w w' : World} {B : Nat} {v : Value} {E : TypeId} {n : Nat} {xs : List Value} (h : w.ownsRow B E 1 v n xs) {W0 : World} (hB : Below B W0 w) (hs : B ≤ w.heap.size) (hg : w.grownBy w' v.ownBlock) : Below B W0 w' :=
  hB.grown hg hs fun k hk => (h.lt k hk).1
theorem stacks_snoc (m : MS) (l : List Nat) (g : Nat) : stacksTo m (l ++ [g]) = stacksTo m l ++ (m.at g).stack := by simp [stacksTo]

set_option maxHeartbeats 25600000 in
theorem reach_any {w : World} {A : Adr} {t : Nat → Tg} {mb : Nat} {F : Fns} {m : MS} (h : Md w A t mb F m) (V : Wf m) (r : Ran m) (hgs : m.gs.length ≤ 1024) :
    Calls Tryz.prog 17 #[.pointer (some ⟨mb, 0, none⟩)] w (RowOut w (rchL m)) := by
  have c4 : w.cell? ⟨mb, 4, none⟩ = some A.Gv := h.box.box.cell 4
  have K1 := Lib.hid (clone_any (Rn.of h.glob.row) (by have := V.gl; omega))
  have K2 := Lib.hid (fun (W : World) (x : Ex w W) => S12.alive_any (h.st.ex x))
  have C2 : Hid (∀ W, Ex w W → W.cell? ⟨mb, 2, none⟩ = some (.pointer (some ⟨A.sb, 0, none⟩))) := Lib.hid (fun W x => (h.box.box.ex x).cell 2)
  have C3 : Hid (∀ W, Ex w W → W.cell? ⟨mb, 3, none⟩ = some A.gv) := Lib.hid (fun W x => (h.box.box.ex x).cell 3)
  have C5 : Hid (∀ W, Ex w W → W.cell? ⟨mb, 5, none⟩ = some A.lv) := Lib.hid (fun W x => (h.box.box.ex x).cell 5)
  have HM := Lib.hid h
  have HV := Lib.hid V
  have HR := Lib.hid r
  have HI := Lib.hid (RInv.start (roots_lt r V.st (fun g hg => (V.stk g hg).2)))
  obtain ⟨L, hL⟩ : ∃ L, S12.aliveTo m.st m.st.length = L := ⟨_, rfl⟩
  have hLG0 : ∀ k, k < L.length → L.getD k 0 < m.gs.length := (fun k hk => by
    have : L.getD k 0 ∈ S12.aliveTo m.st m.st.length := by rw [hL]; simp [hk]
    have := alive_lt this
    rw [← V.st]; exact this)
  have HLG := Lib.hid hLG0
  have hLn : L.length ≤ 1024 := by rw [← hL]; exact Nat.le_trans (S12.alive_le _ _) (by rw [V.st]; exact hgs)
  have HT0 : Hid (m.globals ++ stacksTo m L = rootsM m) := Lib.hid (by rw [← hL]; rfl)
  have HL := Lib.hid hL
  have HLen : Hid (∀ k, k ≤ L.length → (m.globals ++ stacksTo m (L.take k)).length ≤ 32 + 16 * k) := Lib.hid (fun k hk => by
    rw [List.length_append, stacks_le (n := 0) (fun g hg => (V.stk g hg).1) (L.take k) (fun g hg => ?_), List.length_take, Nat.min_eq_left hk]
    · have := V.gl; omega
    · obtain ⟨i, hi, rfl⟩ := List.mem_iff_getElem.1 (List.mem_of_mem_take hg)
      have := hLG0 i hi
      simpa [hi] using this)
  clear hL hLG0
  obtain ⟨Gv, hG⟩ : ∃ v, A.Gv = v := ⟨_, rfl⟩
  rw [hG] at c4 K1
  clear hG
  go_enter Tryz.func17, Tryz.ntmps17
  go_wp2_with fail
  refine K1.out.mono ?_
  rintro e w1 ⟨u, rfl, hu, hx⟩
  have HU := Lib.hid hu
  have HX1 := Lib.hid hx
  have c2 := C2.out w1 hx
  have K3 := Lib.hid (K2.out w1 hx)
  clear hu hx K1 K2 c4
  go_wp2_with fail
  refine K3.out.mono ?_
  rintro e w2 ⟨av, rfl, ha, hx2⟩
  rw [HL.out] at ha
  have HA := Lib.hid ha
  have HU2 : Hid (RowI w2 w.heap.size u m.globals) := Lib.hid (row_chg (F := fun _ => False) HU.out (hx2.chg _) (fun _ _ h => h))
  have HX2 := Lib.hid (HX1.out.trans hx2)
  have HN2 : Hid (∀ b, u.ownBlock = some b → av.ownBlock ≠ some b) := Lib.hid (fun b hb e => by
    have h1 := row_lt HU.out hb
    rcases row_shape ha with ⟨rfl, -⟩ | ⟨g, cap, rfl, h2, -⟩
    · cases e
    · have e2 : g = b := Option.some.inj e
      omega)
  obtain ⟨ao, ac, rfl⟩ := T13.row_val ha
  have hw1 : w.heap.size ≤ w1.heap.size := HX1.out.size
  clear ha hx2 K3 HU HX1 HL c2
  obtain ⟨L1, hL1⟩ : ∃ k, L.length = k := ⟨_, rfl⟩
  rw [hL1] at HLG HLen hLn HA HN2 ⊢
  go_wp2_with fail
  go_loopw [3, 24] (fun v i wr => ∃ k : Nat, k ≤ L1 ∧ i = .int .i64 k ∧ RowI wr w.heap.size v (m.globals ++ stacksTo m (L.take k)) ∧ Ex w wr ∧ wr.ownsRow w1.heap.size 3 1 (.slice ao L1 ac) L1 (S12.ints L) ∧ ∀ b, v.ownBlock = some b → (Value.slice ao L1 ac).ownBlock ≠ some b) (fun _ i _ => L1 - (intOf i).toNat)
  case atStart => exact ⟨0, Nat.zero_le _, rfl, by simpa [stacksTo] using HU2.out, HX2.out, HA.out, HN2.out⟩
  case round =>
    obtain ⟨k, hk, rfl, hown, hx, har, hne⟩ := hrel
    have HX := Lib.hid hx
    have HO := Lib.hid hown
    have HAr := Lib.hid har
    have HNe := Lib.hid hne
    clear hown hx har hne HU2 HX2 HA HN2
    by_cases hlt : k < L1
    · obtain ⟨g, hg⟩ : ∃ g, L.getD k 0 = g := ⟨_, rfl⟩
      have hgl : g < m.gs.length := hg ▸ HLG.out k hlt
      have HG := Lib.hid hg
      rcases row_shape HAr.out with ⟨h1, h2, h3⟩ | ⟨ab, cap, hav, h2, h3, h4, h5⟩
      · omega
      injection hav with e1 _ e2
      subst e1; subst e2
      have ca : wr.cell? ⟨ab, k, none⟩ = some (.int .i64 (g : Nat)) := by
        rw [HAr.out.cellAt k (by omega), ← HG.out]
        simp [S12.ints, hL1.symm ▸ hlt, show k < L.length by omega]
      have c3 := C3.out wr HX.out
      obtain ⟨vb, vc, hgv, -, hvc, -⟩ := HM.out.gvat hgl
      rw [hgv] at c3
      have cv : wr.cell? ⟨vb, g, none⟩ = some (.pointer (some ⟨A.gb g, 0, none⟩)) := by
        obtain ⟨vb', vc', hgv', -, -, q⟩ := (HM.out.exs HX.out).gvat hgl
        rw [hgv] at hgv'
        injection hgv' with e1 _ e2
        cases e1
        exact q
      have hlen := HLen.out k hk
      have RN := Lib.hid (stack_rn HM.out HX.out hgl (HV.out.stk g hgl).1)
      have sl := (HV.out.stk g hgl).1
      obtain ⟨gb, hgb⟩ : ∃ gb, A.gb g = gb := ⟨_, rfl⟩
      rw [hgb] at cv RN
      have s4 : Hid ((m.globals ++ stacksTo m (L.take k)) ++ (m.at g).stack = m.globals ++ stacksTo m (L.take (k + 1))) := Lib.hid (by
        have : L.take (k + 1) = L.take k ++ [g] := by rw [List.take_add_one, ← HG.out]; simp [show k < L.length by omega]
        rw [this, stacks_snoc, List.append_assoc])
      obtain ⟨T, hT⟩ : ∃ T, m.globals ++ stacksTo m (L.take k) = T := ⟨_, rfl⟩
      obtain ⟨M, hM⟩ : ∃ M, (m.at g).stack = M := ⟨_, rfl⟩
      rw [hT] at HO hlen
      rw [hT, hM] at s4
      rw [hM] at RN sl
      clear hT hM hgb
      go_wp2_with (at_builtin; refine wpList_append_I _ rfl (.tmp 28) (.tmp 38) rfl (B := w.heap.size) (l := T) (M := M) rfl HO.out HX.out.size rfl RN.out (by omega) ?_)
      intro v' w3 h6 h7 h8
      have s1 := row_chg HAr.out (Chg.grown (F := fun i => u3.ownBlock = some i) h7 (fun i hi => hi)) (fun b hb e => HNe.out b e hb)
      have s2 := ex_grownI HO.out HX.out HX.out.size h7
      have s3 : ∀ b, v'.ownBlock = some b → (Value.slice (some ⟨ab, 0, none⟩) L1 ac).ownBlock ≠ some b := fun b hb e => by
        have e2 : ab = b := Option.some.inj e
        rcases h8 with h8 | h8
        · exact HNe.out b (h8 ▸ hb) e
        · rw [h8] at hb; have := Option.some.inj hb; omega
      rw [s4.out] at h6
      have S0 := Lib.hid h6
      have S1 := Lib.hid s1
      have S2 := Lib.hid s2
      have S3 := Lib.hid s3
      clear h6 h7 h8 s1 s2 s3 s4
      go_wp2
      go_roundw
      case rel => exact ⟨k + 1, by omega, by go_num, S0.out, S2.out, S1.out, S3.out⟩
      case measure => simp [intOf]; omega
    · obtain rfl : k = L1 := by omega
      rw [show L.take k = L by rw [← hL1, List.take_length], HT0.out] at HO
      have e1 : ¬ ((k : Int) < (k : Int)) := by omega
      have c5 := C5.out wr HX.out
      obtain ⟨lo, lc, hlv⟩ := T13.row_val HM.out.slr.row
      rw [hlv] at c5
      obtain ⟨sn, hsn⟩ : ∃ n, m.slots.length = n := ⟨_, rfl⟩
      have hsn1 : sn ≤ 100000 := hsn ▸ HV.out.sn
      have HMB := Lib.hid (make_bools wr sn hsn1)
      rw [hsn] at c5 hlv HI
      have HSN := Lib.hid hsn
      have HLV := Lib.hid hlv
      have hT0 := HLen.out k (Nat.le_refl _)
      rw [show L.take k = L by rw [← hL1, List.take_length], HT0.out] at hT0
      clear HLen HLG HAr HNe hsn hlv
      have KMB := HMB.out
      have hT1 := us_le m (List.replicate sn false)
      have hT2 := HR.out.tot
      obtain ⟨T0, hT⟩ : ∃ T, rootsM m = T := ⟨_, rfl⟩
      rw [hT] at HO HI hT0
      obtain ⟨sb, hsb⟩ : ∃ sb, wr.heap.size = sb := ⟨_, rfl⟩
      have hsb1 : w.heap.size ≤ sb := hsb ▸ HX.out.size
      have B0 : Hid (Box (wr.alloc (.cells (bools (List.replicate sn false)).toArray 4)) sb (bools (List.replicate sn false)).toArray 4) := Lib.hid (hsb ▸ Box.fresh wr _ _)
      have X0 := Lib.hid (HX.out.trans (Ex.made wr (.cells (bools (List.replicate sn false)).toArray 4)))
      have O0 := Lib.hid (HO.out.ex (Ex.made wr (.cells (bools (List.replicate sn false)).toArray 4)))
      have N0 : Hid (∀ b, u3.ownBlock = some b → b ≠ sb) := Lib.hid (fun b hb e => by have := row_lt HO.out hb; omega)
      rw [hsb] at KMB
      go_wp2_with fail
      obtain ⟨U, hU⟩ : ∃ Y, Y = wr.alloc (.cells (bools (List.replicate sn false)).toArray 4) := ⟨_, rfl⟩
      rw [← hU] at B0 X0 O0 ⊢
      clear hU hsb HO HX KMB HMB c5 HLV
      go_loopw [3] (fun v W2 => ∃ (T : List Nat) (S : List Bool), RowI W2 w.heap.size v T ∧ Ex w W2 ∧ Box W2 sb (bools S).toArray 4 ∧ RInv m T S ∧ T.length + us m S ≤ 600000 ∧ ∀ b, v.ownBlock = some b → b ≠ sb) (fun v W2 => lenV v + us m (readB W2 sb sn))
      case atStart => exact ⟨_, _, O0.out, X0.out, B0.out, HI.out, by omega, N0.out⟩
      case round =>

        obtain ⟨T, S, hown, hx, hbx, hinv, hm, hne⟩ := hrel
        clear B0 X0 O0 N0 HI hT1 hT2 hT0
        have hrd := readB_box hbx hinv.len
        rw [HSN.out] at hrd
        have HO := Lib.hid hown
        have HX := Lib.hid hx
        have HB := Lib.hid hbx
        have HI := Lib.hid hinv
        have HN := Lib.hid hne
        have HRD := Lib.hid hrd
        clear hown hx hbx hinv hne hrd
        rcases List.eq_nil_or_concat T with rfl | ⟨T1, x, hTx⟩
        · obtain ⟨zo, zc, hz⟩ := T13.row_val HO.out
          have hz : u3 = .slice zo 0 zc := hz
          subst hz
          have HOUT := Lib.hid HI.out.out
          rw [HSN.out] at HOUT
          have hslen := HI.out.len
          rw [HSN.out] at hslen
          clear HO HN HRD HI
          go_wp2_with fail
          go_loopw [8, 84] (fun v i W3 => ∃ j : Nat, j ≤ sn ∧ i = .int .i64 j ∧ RowI W3 wr.heap.size v (seenTo S j) ∧ Ex wr W3) (fun _ i _ => sn - (intOf i).toNat)
          case atStart => exact ⟨0, Nat.zero_le _, rfl, World.ownsRow_nil _ _ _ _, Ex.refl _⟩
          case round =>
            obtain ⟨j, hj, rfl, ho, hxx⟩ := hrel
            have HO := Lib.hid ho
            have HXX := Lib.hid (HX.out.trans hxx)
            have HB2 := Lib.hid (HB.out.ex hxx)
            have HX2 := Lib.hid hxx
            clear ho hxx
            by_cases hlt : j < sn
            · have hc := HB2.out.cell j
              have hle := seen_le S j
              cases hS : S.getD j false
              · rw [show ((bools S).toArray[j]? : Option Value) = some (.bool false) by simp [bools, show j < S.length by omega]; rw [List.getD_eq_getElem?_getD, List.getElem?_eq_getElem (by omega)] at hS; simpa using hS] at hc
                have s0 := Lib.hid (seen_miss hS)
                go_wp2_with fail
                go_roundw
                case rel => exact ⟨j + 1, by omega, by go_num, by rw [s0.out]; exact HO.out, HX2.out⟩
                case measure => simp [intOf]; omega
              · rw [show ((bools S).toArray[j]? : Option Value) = some (.bool true) by simp [bools, show j < S.length by omega]; rw [List.getD_eq_getElem?_getD, List.getElem?_eq_getElem (by omega)] at hS; simpa using hS] at hc
                have s0 := Lib.hid (seen_hit hS)
                obtain ⟨Q, hQ⟩ : ∃ Q, seenTo S j = Q := ⟨_, rfl⟩
                rw [hQ] at HO hle s0
                have HQ := Lib.hid (HO.out.ex (Ex.made wr (.cells #[.int .i64 (j : Nat)] 3)))
                have HR1 := Lib.hid (rn_one wr j)
                have HXm := Lib.hid (HX2.out.trans (Ex.made wr (.cells #[.int .i64 (j : Nat)] 3)))
                go_wp2_with (at_builtin; refine wpList_append_I _ rfl (.tmp 90) (.tmp 92) rfl (l := Q) (M := [j]) rfl HQ.out HXm.out.size rfl HR1.out (by simp; omega) ?_)
                intro v' w4 h6 h7 h8
                rw [← s0.out] at h6
                have S0 := Lib.hid h6
                have S1 := Lib.hid (ex_grownI HQ.out HXm.out HXm.out.size h7)
                clear h6 h7 h8
                go_wp2
                go_roundw
                case rel => exact ⟨j + 1, by omega, by go_num, S0.out, S1.out⟩
                case measure => simp [intOf]; omega
            · obtain rfl : j = sn := by omega
              have e4 : ¬ ((j : Int) < (j : Int)) := by omega
              rw [HOUT.out] at HO
              go_wp2
              go_ret
              exact ⟨_, rfl, HO.out.base HX.out.size, HXX.out⟩
        · rw [List.concat_eq_append] at hTx
          subst hTx
          obtain ⟨p, hp⟩ : ∃ p, T1.length = p := ⟨_, rfl⟩
          have hl1 : (T1 ++ [x]).length = p + 1 := by simp [hp]
          have hO := HO.out
          unfold RowI at hO
          rw [hl1] at hO hm
          rcases row_shape hO with ⟨-, h2, -⟩ | ⟨zb, zc, rfl, h2, h3, h4, h5⟩
          · omega
          have cz : wr.cell? ⟨zb, p, none⟩ = some (.int .i64 (x : Nat)) := by
            rw [hO.cellAt p (by omega)]
            simp [S12.ints, ← hp]
          have e2 : IntKind.i64.wrap (((p + 1 : Nat) : Int) - 1) = (p : Int) := by rw [IntKind.wrap_i64]; omega
          have e3 : IntKind.i64.wrap ((p : Int) + 1 - 1) = (p : Int) := by rw [IntKind.wrap_i64]; omega
          have O1 : Hid (RowI wr w.heap.size (.slice (some ⟨zb, 0, none⟩) p zc) T1) := Lib.hid (row_cut (x := x) (by have := HO.out; unfold RowI at this; exact this) hp)
          have hxs : x < sn := by have := HI.out.lt x (by simp); rw [HSN.out] at this; exact this
          have hzs := HN.out zb rfl
          clear hO HO HN
          by_cases hx0 : x = 0
          · subst hx0
            rw [show ((0 : Nat) : Int) = 0 from rfl] at cz
            have I1 := Lib.hid (HI.out.skip (.inl rfl))
            go_wp2_with fail
            go_roundw
            case rel => exact ⟨T1, S, O1.out, HX.out, HB.out, I1.out, by omega, fun b hb => by cases hb; exact hzs⟩
            case measure => simp only [lenV]; omega
          · have hx1 : ((x : Int) != 0) = true := by simp; omega
            cases hS : S.getD x false
            · have hs8 : x < S.length := by rw [HI.out.len, HSN.out]; exact hxs
              have cs : wr.cell? ⟨sb, x, none⟩ = some (.bool false) := by
                rw [HB.out.cell x]
                rw [List.getD_eq_getElem?_getD, List.getElem?_eq_getElem hs8] at hS
                simp [bools, hs8]
                simpa using hS
              have fs := HB.out.soft x
              have HTK := Lib.hid (HI.out.take hx0 (HR.out.sl x))
              have hus := us_put (x := x) (S := S) (m := m) (by rw [HSN.out]; exact hxs) HI.out.len hS
              go_upto_region 15 with fail
              obtain ⟨W3, hW3⟩ : ∃ Y, Y = wr.setCell ⟨sb, x, none⟩ (.bool true) := ⟨_, rfl⟩
              rw [← hW3]
              have X3 : Ex w W3 := hW3 ▸ ex_put HX.out hsb1 x (.bool true)
              have B3 : Box W3 sb (bools (S.set x true)).toArray 4 := by rw [hW3, ← bools_set]; exact HB.out.put x _
              have O3 : RowI W3 w.heap.size (.slice (some ⟨zb, 0, none⟩) p zc) T1 := by rw [hW3]; exact row_chg O1.out (Chg.cell (F := fun i => i = sb) wr ⟨sb, x, none⟩ _ rfl) (fun b hb e => by cases hb; exact hzs e)
              have c5 := C5.out W3 X3
              have M3 := HM.out.exs X3
              obtain ⟨lb, lc2, hlv, hlt3, hlc, cl⟩ := M3.lvat (id := x) (by rw [HSN.out]; exact hxs)
              rw [hlv] at c5
              rw [HSN.out] at c5 hlc
              have RN3 : Rn W3 (A.ov x) (m.slots.getD x []) := Rn.of (M3.slot x (by rw [HSN.out]; exact hxs)).row
              obtain ⟨Mx, hMx⟩ : ∃ M, m.slots.getD x [] = M := ⟨_, rfl⟩
              obtain ⟨ov, hov⟩ : ∃ v, A.ov x = v := ⟨_, rfl⟩
              rw [hMx] at RN3 HTK hus
              rw [hov] at RN3 cl
              have HB3 := Lib.hid B3
              have HO3 := Lib.hid O3
              have HX3 := Lib.hid X3
              have HRN := Lib.hid RN3
              have hsb3 : sb < W3.heap.size := B3.lt
              clear B3 O3 X3 RN3 M3 hW3 cs fs hlv hMx hov
              go_wp2_with (at_builtin; refine wpList_append_I _ rfl (.tmp 73) (.tmp 80) rfl (B := w.heap.size) (l := T1) (M := Mx) rfl HO3.out HX3.out.size rfl HRN.out (by omega) ?_)
              intro v' w4 h6 h7 h8
              have b4 := (h7.block sb hsb3 (fun e => hzs (Option.some.inj e).symm)).trans HB3.out
              obtain ⟨va, vc4, rfl⟩ := T13.row_val h6
              have hrd := readB_box b4 HTK.out.len
              rw [HSN.out] at hrd
              have S0 := Lib.hid h6
              have S1 := Lib.hid (ex_grownI HO3.out HX3.out HX3.out.size h7)
              have S2 := Lib.hid b4
              have S3 : Hid (∀ b, (Value.slice va (T1 ++ Mx).length vc4).ownBlock = some b → b ≠ sb) := Lib.hid (fun b hb => by
                rcases h8 with h8 | h8
                · rw [h8] at hb; have e5 : zb = b := Option.some.inj hb; omega
                · rw [h8] at hb; have e5 : W3.heap.size = b := Option.some.inj hb; omega)
              have S4 := Lib.hid hrd
              clear h6 h7 h8 b4 hrd
              have hlen2 : (T1 ++ Mx).length = p + Mx.length := by simp [hp]
              go_wp2
              go_roundw
              case rel => exact ⟨T1 ++ Mx, S.set x true, S0.out, S1.out, S2.out, HTK.out, by omega, S3.out⟩
              case measure => rw [S4.out, HRD.out]; simp only [lenV]; omega
            · have cs : wr.cell? ⟨sb, x, none⟩ = some (.bool true) := by
                rw [HB.out.cell x]
                have := HI.out.len
                rw [HSN.out] at this
                rw [List.getD_eq_getElem?_getD] at hS
                simp [bools]
                cases hq : S[x]? with
                | none => rw [hq] at hS; cases hS
                | some y => rw [hq] at hS; simp at hS; subst hS; rfl
              have I1 := Lib.hid (HI.out.skip (.inr hS))
              go_wp2_with fail
              go_roundw
              case rel => exact ⟨T1, S, O1.out, HX.out, HB.out, I1.out, by omega, fun b hb => by cases hb; exact hzs⟩
              case measure => simp only [lenV]; omega

end Go.Proofs.YtmlobpapjfkbmaaGreat

/- What an instruction does, told cleanly: plain. -/
namespace Go.Proofs.YtmlobpapjfkbmaaGreat
set_option linter.unusedVariables false
set_option maxRecDepth 20000
set_option linter.unusedSimpArgs false

/-- A goroutine whose instruction is begun. -/
def x1 (m : MS) (g : Nat) : GS := { m.at g with pc := (m.at g).pc + 1 }
/-- It can't be done. -/
def deadM (m : MS) (g : Nat) : MS := { m.put g (x1 m g) with st := m.st.set g 5 }
/-- What an instruction leaves. -/
def opM (m : MS) (g : Nat) (op a b c : Nat) : MS :=
  let x := x1 m g
  match op with
  | 0 => deadM m g
  | 1 => { m.put g (x.top a m.slots.length) with slots := m.slots ++ [List.replicate (b + 1) 0] }
  | 2 => if x.val b = 0 ∨ (m.slots.getD (x.val b) []).length ≤ c then deadM m g else m.put g (x.top a ((m.slots.getD (x.val b) []).getD c 0))
  | 3 => if x.val a = 0 ∨ (m.slots.getD (x.val a) []).length ≤ b then deadM m g else
      { m.put g x with slots := m.slots.set (x.val a) ((m.slots.getD (x.val a) []).set b (x.val c)) }
  | 4 => m.put g (x.top a (x.val b))
  | 5 => m.put g (x.top a 0)
  | 6 => m.put g (x.top a (m.globals.getD b 0))
  | 7 => { m.put g x with globals := m.globals.set a (x.val b) }
  | 8 => if m.gs.length < 1024 then spawnM (m.put g x) a (x.val b) else deadM m g
  | 10 => { m.put g x with sleep := T13.insT (((m.clock + (256 * b + c + 1) : Nat) : Int), (g : Int), (m.k : Int) + 1) m.sleep, k := m.k + 1, st := m.st.set g 3 }
  | 11 => { m.put g x with wait := m.wait.set a (m.wait.getD a [] ++ [g]), st := m.st.set g 3 }
  | 12 => match m.wait.getD a [] with
    | [] => m.put g x
    | w :: l => { m.put g x with wait := m.wait.set a l, st := m.st.set w 1 }
  | 14 => m.put g { x with pc := a }
  | 15 => if x.val a = x.val b then m.put g { x with pc := c } else m.put g x
  | 16 => m.put g { x with count := 256 * a + b }
  | 17 => if 0 < x.count then m.put g { x with count := x.count - 1, pc := a } else m.put g x
  | _ => m.put g x
/-- Can't it be done? -/
def opBad (m : MS) (g : Nat) (op a b c : Nat) : Bool :=
  match op with
  | 2 => decide ((m.at g).val b = 0 ∨ (m.slots.getD ((m.at g).val b) []).length ≤ c)
  | 3 => decide ((m.at g).val a = 0 ∨ (m.slots.getD ((m.at g).val a) []).length ≤ b)
  | 8 => decide (1024 ≤ m.gs.length)
  | _ => false
/-- What is told of it. -/
def opV (m : MS) (g : Nat) (op a b c : Nat) : Int :=
  match op with
  | 1 => (m.slots.length : Int)
  | 2 => if opBad m g 2 a b c = true then 0 else (((m.slots.getD ((m.at g).val b) []).getD c 0 : Nat) : Int)
  | 8 => if m.gs.length < 1024 then (m.gs.length : Int) else 0
  | 12 => match m.wait.getD a [] with
    | [] => -1
    | w :: _ => (w : Int)
  | 13 => if (m.at g).val a = (m.at g).val b then 1 else 0
  | _ => 0

/-- Who is where. -/
structure SInv (st : List Nat) (S : List T13.T3) (W : List (List Nat)) : Prop where
  sts : ∀ g, g < st.length → st.getD g 0 = 1 ∨ st.getD g 0 = 3 ∨ st.getD g 0 = 5
  slp : ∀ p ∈ S, ∃ g : Nat, p.2.1 = (g : Int)
  nd : (S.map (fun p => p.2.1.toNat) ++ W.flatten).Nodup
  mem : ∀ g ∈ S.map (fun p => p.2.1.toNat) ++ W.flatten, g < st.length ∧ st.getD g 0 = 3

theorem SInv.lone {st : List Nat} {S : List T13.T3} {W : List (List Nat)} (h : SInv st S W) {g : Nat} (hs : st.getD g 0 ≠ 3) : g ∉ S.map (fun p => p.2.1.toNat) ++ W.flatten := fun hm => hs (h.mem g hm).2
theorem getD_set (l : List Nat) (g i v : Nat) (hg : g < l.length) : (l.set g v).getD i 0 = if i = g then v else l.getD i 0 := by
  rw [List.getD_eq_getElem?_getD, List.getD_eq_getElem?_getD, List.getElem?_set]
  by_cases e : g = i
  · subst e; simp [hg]
  · rw [if_neg e, if_neg (fun h => e h.symm)]
theorem set_same (l : List Nat) (g : Nat) (v : Nat) (h : l.getD g 0 = v) (hg : g < l.length) : l.set g v = l := by
  apply List.ext_getElem?
  intro i
  rw [List.getElem?_set]
  by_cases e : g = i
  · subst e
    rw [if_pos rfl, if_pos hg]
    rw [List.getD_eq_getElem?_getD, List.getElem?_eq_getElem hg] at h
    rw [List.getElem?_eq_getElem hg, ← h]; rfl
  · rw [if_neg e]
/-- A state is turned that nobody hangs on. -/
theorem SInv.turn {st : List Nat} {S : List T13.T3} {W : List (List Nat)} (h : SInv st S W) {g s : Nat} (hs : st.getD g 0 ≠ 3) (h5 : s = 1 ∨ s = 3 ∨ s = 5) : SInv (st.set g s) S W := by
  by_cases hg : g < st.length
  · refine ⟨fun i hi => ?_, h.slp, h.nd, fun i hi => ?_⟩
    · rw [List.length_set] at hi
      rw [getD_set st g i s hg]
      split
      · exact h5
      · exact h.sts i hi
    · obtain ⟨h1, h2⟩ := h.mem i hi
      rw [List.length_set, getD_set st g i s hg]
      refine ⟨h1, ?_⟩
      split
      · next e => subst e; exact absurd h2 hs
      · exact h2
  · rw [List.set_eq_of_length_le (by omega)]; exact h
theorem SInv.more {st : List Nat} {S : List T13.T3} {W : List (List Nat)} (h : SInv st S W) : SInv (st ++ [1]) S W := by
  have e : ∀ i, i < st.length → (st ++ [1]).getD i 0 = st.getD i 0 := fun i hi => by
    rw [List.getD_eq_getElem?_getD, List.getD_eq_getElem?_getD, List.getElem?_append_left hi]
  refine ⟨fun i hi => ?_, h.slp, h.nd, fun i hi => ?_⟩
  · by_cases hl : i < st.length
    · rw [e i hl]; exact h.sts i hl
    · have : i = st.length := by simp at hi; omega
      subst this; left; simp
  · obtain ⟨h1, h2⟩ := h.mem i hi
    exact ⟨by simp; omega, by rw [e i h1]; exact h2⟩
theorem insT_mem (p : T13.T3) (l : List T13.T3) (q : T13.T3) : q ∈ T13.insT p l ↔ q = p ∨ q ∈ l := by
  rw [(T13.insT_perm p l).mem_iff]; simp; constructor <;> (rintro (h | h) <;> simp [h])
theorem SInv.sleep {st : List Nat} {S : List T13.T3} {W : List (List Nat)} (h : SInv st S W) {g : Nat} (hg : g < st.length) (hs : st.getD g 0 ≠ 3) (t k : Int) : SInv (st.set g 3) (T13.insT (t, (g : Int), k) S) W := by
  have h' := h.turn (g := g) (s := 3) hs (by omega)
  have pm : (((T13.insT (t, (g : Int), k) S).map (fun p => p.2.1.toNat)) ++ W.flatten).Perm (g :: (S.map (fun p => p.2.1.toNat) ++ W.flatten)) := by
    have := ((T13.insT_perm (t, (g : Int), k) S).map (fun p => p.2.1.toNat)).append_right W.flatten
    refine this.trans ?_
    rw [List.map_append]
    simp only [List.map_cons, List.map_nil, Int.toNat_natCast, List.append_assoc, List.singleton_append]
    exact List.perm_middle
  refine ⟨h'.sts, fun p hp => ?_, ?_, fun i hi => ?_⟩
  · rcases (insT_mem _ _ _).1 hp with rfl | hp
    · exact ⟨g, rfl⟩
    · exact h.slp p hp
  · rw [pm.nodup_iff, List.nodup_cons]
    exact ⟨h.lone hs, h.nd⟩
  · rcases List.mem_cons.1 (pm.mem_iff.1 hi) with rfl | hi
    · rw [List.length_set, getD_set st i i 3 hg]; simp [hg]
    · exact h'.mem i hi
theorem flatten_set_perm {α : Type} : ∀ (W : List (List α)) (a : Nat) (l : List α), a < W.length → ((W.set a l).flatten ++ W.getD a []).Perm (l ++ W.flatten)
  | [], a, l, h => by simp at h
  | x :: W, 0, l, h => by
    simp only [List.set_cons_zero, List.flatten_cons, List.getD_cons_zero, List.append_assoc]
    exact (List.perm_append_comm).append_left l
  | x :: W, a + 1, l, h => by
    simp only [List.set_cons_succ, List.flatten_cons, List.getD_cons_succ, List.append_assoc]
    have := (flatten_set_perm W a l (by simpa using h)).append_left x
    refine this.trans ?_
    rw [← List.append_assoc, ← List.append_assoc]
    exact (List.perm_append_comm).append_right _
theorem SInv.block {st : List Nat} {S : List T13.T3} {W : List (List Nat)} (h : SInv st S W) {g a : Nat} (hg : g < st.length) (hs : st.getD g 0 ≠ 3) (ha : a < W.length) : SInv (st.set g 3) S (W.set a (W.getD a [] ++ [g])) := by
  have h' := h.turn (g := g) (s := 3) hs (by omega)
  have p1 : (W.set a (W.getD a [] ++ [g])).flatten.Perm (g :: W.flatten) := by
    have := flatten_set_perm W a (W.getD a [] ++ [g]) ha
    have h2 : ((W.getD a [] ++ [g]) ++ W.flatten).Perm ((g :: W.flatten) ++ W.getD a []) := by
      rw [List.append_assoc]
      exact List.perm_append_comm
    exact (List.perm_append_right_iff _).1 (this.trans h2)
  have pm : (S.map (fun p => p.2.1.toNat) ++ (W.set a (W.getD a [] ++ [g])).flatten).Perm (g :: (S.map (fun p => p.2.1.toNat) ++ W.flatten)) :=
    (p1.append_left _).trans List.perm_middle
  refine ⟨h'.sts, h.slp, ?_, fun i hi => ?_⟩
  · rw [pm.nodup_iff, List.nodup_cons]
    exact ⟨h.lone hs, h.nd⟩
  · rcases List.mem_cons.1 (pm.mem_iff.1 hi) with rfl | hi
    · rw [List.length_set, getD_set st i i 3 hg]; simp [hg]
    · exact h'.mem i hi
theorem SInv.wake {st : List Nat} {S : List T13.T3} {W : List (List Nat)} (h : SInv st S W) {a w : Nat} {l : List Nat} (ha : a < W.length) (hw : W.getD a [] = w :: l) : w < st.length ∧ st.getD w 0 = 3 ∧ SInv (st.set w 1) S (W.set a l) := by
  have p1 : (W.flatten).Perm (w :: (W.set a l).flatten) := by
    have := flatten_set_perm W a l ha
    rw [hw] at this
    have h2 : ((W.set a l).flatten ++ w :: l).Perm ((w :: (W.set a l).flatten) ++ l) := List.perm_middle
    have h3 := (h2.symm.trans this).trans List.perm_append_comm
    exact ((List.perm_append_right_iff _).1 h3).symm
  have pm : (S.map (fun p => p.2.1.toNat) ++ W.flatten).Perm (w :: (S.map (fun p => p.2.1.toNat) ++ (W.set a l).flatten)) := (p1.append_left _).trans List.perm_middle
  have hm := h.mem w (pm.mem_iff.2 (List.mem_cons_self ..))
  have nd := pm.nodup_iff.1 h.nd
  rw [List.nodup_cons] at nd
  refine ⟨hm.1, hm.2, fun i hi => ?_, h.slp, nd.2, fun i hi => ?_⟩
  · rw [List.length_set] at hi
    rw [getD_set st w i 1 hm.1]
    split
    · left; rfl
    · exact h.sts i hi
  · have h2 := h.mem i (pm.mem_iff.2 (List.mem_cons_of_mem _ hi))
    have hne : i ≠ w := fun e => nd.1 (e ▸ hi)
    rw [List.length_set, getD_set st w i 1 hm.1, if_neg hne]
    exact h2

theorem mv1 {st : List Nat} {g s : Nat} (hg : g < st.length) (h1 : st.getD g 0 = 1) (hs : s = 1 ∨ s = 3 ∨ s = 5) : moveS (moveS st g 2) g s = st.set g s := by
  have e1 : moveS st g 2 = st.set g 2 := by unfold moveS; rw [h1]; rfl
  rw [e1]
  unfold moveS
  rw [getD_set st g g 2 hg, if_pos rfl]
  rcases hs with rfl | rfl | rfl <;> exact (if_pos (by rfl)).trans (List.set_set ..)

end Go.Proofs.YtmlobpapjfkbmaaGreat

/- What holds of a model all along: plain. -/
namespace Go.Proofs.YtmlobpapjfkbmaaGreat
set_option linter.unusedVariables false
set_option maxRecDepth 20000
set_option linter.unusedSimpArgs false

/-- What holds of a model all along: n instructions were begun. -/
structure Inv (F : Fns) (gn n : Nat) (m : MS) : Prop where
  st : m.st.length = m.gs.length
  g1 : 1 ≤ m.gs.length
  gsn : m.gs.length ≤ 1 + n
  g1k : m.gs.length ≤ 1024
  stk : ∀ g, g < m.gs.length → (m.at g).stack.length = 16 ∧ ∀ a, (m.at g).val a < m.slots.length
  cnt : ∀ g, g < m.gs.length → (m.at g).count ≤ 65535
  fn : ∀ g, g < m.gs.length → (m.at g).f < F.length
  pc : ∀ g, g < m.gs.length → (m.at g).pc ≤ 65 ∧ (m.st.getD g 0 ≠ 5 → (m.at g).pc ≤ 64)
  s0 : 0 < m.slots.length
  nil0 : m.slots.getD 0 [] = []
  sn : m.slots.length ≤ 1 + n
  on : ∀ i, (m.slots.getD i []).length ≤ 256
  slv : ∀ i, ∀ x ∈ m.slots.getD i [], x < m.slots.length
  tot : total m ≤ 256 * n
  gl : m.globals.length = gn
  glv : ∀ x ∈ m.globals, x < m.slots.length
  sl : m.sleep.length ≤ n
  k : m.k ≤ n
  wl : m.wait.length = 32
  wt : ∀ i, (m.wait.getD i []).length ≤ n
  s : SInv m.st m.sleep m.wait

/-- An instruction that may be. -/
structure Fit (F : Fns) (gn op a b c : Nat) : Prop where
  o18 : op < 18
  p1 : (op = 1 ∨ op = 2 ∨ op = 3 ∨ op = 4 ∨ op = 5 ∨ op = 6 ∨ op = 13 ∨ op = 15) → a < 16
  p2 : (op = 2 ∨ op = 4 ∨ op = 7 ∨ op = 8 ∨ op = 13 ∨ op = 15) → b < 16
  p3 : op = 3 → c < 16
  sz : op = 1 → b < 256
  gb : op = 6 → b < gn
  ga : op = 7 → a < gn
  fn : op = 8 → a < F.length
  slp : op = 10 → b < 256 ∧ c < 256
  wt : (op = 11 ∨ op = 12) → a < 32
  jp : (op = 14 ∨ op = 17) → a < 64
  jq : op = 15 → c < 64
  ct : op = 16 → a < 256 ∧ b < 256

/-- The bounds of a whole instruction. -/
theorem Fit.ok {F : Fns} {gn op a b c : Nat} (h : Fit F gn op a b c) {m : MS} (hg : m.globals.length = gn) : InstOk m op a b c := by
  obtain ⟨ho, h1, h2, h3, h4, h5, h6, h7, h8, h9, h10, h11, h12⟩ := h
  have : op = 0 ∨ op = 1 ∨ op = 2 ∨ op = 3 ∨ op = 4 ∨ op = 5 ∨ op = 6 ∨ op = 7 ∨ op = 8 ∨ op = 9 ∨ op = 10 ∨ op = 11 ∨ op = 12 ∨ op = 13 ∨ op = 14 ∨ op = 15 ∨ op = 16 ∨ op = 17 := by omega
  rcases this with rfl | rfl | rfl | rfl | rfl | rfl | rfl | rfl | rfl | rfl | rfl | rfl | rfl | rfl | rfl | rfl | rfl | rfl <;> simp only [InstOk] <;> first | trivial | (simp at *; omega)

theorem Inv.wf {F : Fns} {gn n : Nat} {m : MS} (h : Inv F gn n m) (hg : gn ≤ 32) (hn : n ≤ 800) (hc : m.clock ≤ 1000000000) : Wf m :=
  ⟨h.st, h.stk, h.s0, by have := h.sn; omega, fun i => by have := h.on i; omega, by have := h.gl; omega, by have := h.sl; omega, by have := h.k; omega, hc, fun i => by have := h.wt i; omega, fun g hg => by have := h.cnt g hg; omega⟩

theorem total_app (m : MS) (l : List Nat) : total { m with slots := m.slots ++ [l] } = total m + l.length := by
  unfold total
  show sumTo _ (m.slots ++ [l]).length = _
  rw [List.length_append, List.length_singleton]
  simp only [sumTo]
  rw [sumTo_same m.slots.length (g := fun i => (m.slots.getD i []).length) (fun i hi => by
    rw [List.getD_eq_getElem?_getD, List.getElem?_append_left hi, ← List.getD_eq_getElem?_getD])]
  simp
theorem getD_setL (W : List (List Nat)) (a i : Nat) (l : List Nat) : (W.set a l).getD i [] = if i = a ∧ a < W.length then l else W.getD i [] := by
  rw [List.getD_eq_getElem?_getD, List.getD_eq_getElem?_getD, List.getElem?_set]
  by_cases e : a = i
  · subst e
    by_cases h : a < W.length
    · simp [h]
    · simp [h]
  · rw [if_neg e, if_neg (fun h => e h.1.symm)]
theorem total_set (m : MS) (i : Nat) (l : List Nat) (hl : l.length = (m.slots.getD i []).length) : total { m with slots := m.slots.set i l } = total m := by
  unfold total
  show sumTo _ (m.slots.set i l).length = _
  rw [List.length_set]
  refine sumTo_same _ fun j hj => ?_
  show ((m.slots.set i l).getD j []).length = _
  rw [getD_setL]
  split
  · next e => rw [e.1, hl]
  · rfl
theorem val_top (x : GS) (a v i : Nat) : (x.top a v).val i = if i = a ∧ a < x.stack.length then v else x.val i := by
  unfold GS.top GS.val
  show (x.stack.set a v).getD i 0 = _
  rw [List.getD_eq_getElem?_getD, List.getD_eq_getElem?_getD, List.getElem?_set]
  by_cases e : a = i
  · subst e
    by_cases h : a < x.stack.length
    · simp [h]
    · simp [h]
  · rw [if_neg e, if_neg (fun h => e h.1.symm)]

theorem Inv.le {F : Fns} {gn n n' : Nat} {m : MS} (h : Inv F gn n m) (hn : n ≤ n') : Inv F gn n' m :=
  ⟨h.st, h.g1, by have := h.gsn; omega, h.g1k, h.stk, h.cnt, h.fn, h.pc, h.s0, h.nil0, by have := h.sn; omega, h.on, h.slv, by have := h.tot; omega, h.gl, h.glv, by have := h.sl; omega, by have := h.k; omega, h.wl, fun i => by have := h.wt i; omega, h.s⟩
/-- What a goroutine's turn keeps. -/
theorem Inv.put {F : Fns} {gn n : Nat} {m : MS} (h : Inv F gn n m) {g : Nat} (hg : g < m.gs.length) {x : GS} {st' : List Nat} {S' : List T13.T3} {k' : Nat} {W' : List (List Nat)}
    (hx : x.stack.length = 16 ∧ ∀ a, x.val a < m.slots.length) (hc : x.count ≤ 65535) (hf : x.f < F.length) (hp : x.pc ≤ 65) (hl : st'.length = m.st.length) (hp2 : st'.getD g 0 ≠ 5 → x.pc ≤ 64) (h5 : ∀ i, i ≠ g → m.st.getD i 0 = 5 → st'.getD i 0 = 5)
    (hs : SInv st' S' W') (h1 : S'.length ≤ n) (hk : k' ≤ n) (hw : W'.length = 32) (hwt : ∀ i, (W'.getD i []).length ≤ n) :
    Inv F gn n { m.put g x with st := st', sleep := S', k := k', wait := W' } := by
  have ge : (m.put g x).gs.length = m.gs.length := by simp [MS.put]
  have e : ∀ i, (m.put g x).at i = if g = i ∧ i < m.gs.length then x else m.at i := fun i => at_set m g i x
  refine ⟨by show st'.length = (m.put g x).gs.length; rw [hl, ge]; exact h.st, by show 1 ≤ (m.put g x).gs.length; rw [ge]; exact h.g1, ?_, ?_, fun i hi => ?_, fun i hi => ?_, fun i hi => ?_, fun i hi => ?_, h.s0, h.nil0, h.sn, h.on, h.slv, h.tot, h.gl, h.glv, h1, hk, hw, hwt, hs⟩
  · show (m.put g x).gs.length ≤ _; rw [ge]; exact h.gsn
  · show (m.put g x).gs.length ≤ _; rw [ge]; exact h.g1k
  · have hi' : i < m.gs.length := by rw [← ge]; exact hi
    show ((m.put g x).at i).stack.length = 16 ∧ ∀ a, ((m.put g x).at i).val a < m.slots.length
    rw [e]; split
    · exact hx
    · exact h.stk i hi'
  · have hi' : i < m.gs.length := by rw [← ge]; exact hi
    show ((m.put g x).at i).count ≤ 65535
    rw [e]; split
    · exact hc
    · exact h.cnt i hi'
  · have hi' : i < m.gs.length := by rw [← ge]; exact hi
    show ((m.put g x).at i).f < F.length
    rw [e]; split
    · exact hf
    · exact h.fn i hi'
  · have hi' : i < m.gs.length := by rw [← ge]; exact hi
    show ((m.put g x).at i).pc ≤ 65 ∧ (st'.getD i 0 ≠ 5 → ((m.put g x).at i).pc ≤ 64)
    rw [e]; split
    · next q => obtain ⟨rfl, -⟩ := q; exact ⟨hp, hp2⟩
    · next q =>
      obtain ⟨k1, k2⟩ := h.pc i hi'
      refine ⟨k1, fun hne => k2 fun h5' => hne (h5 i (fun e => q ⟨e.symm, hi'⟩) h5')⟩

/-- Objects as they are turned. -/
theorem Inv.obj {F : Fns} {gn n : Nat} {m : MS} (h : Inv F gn n m) {j : Nat} {l : List Nat} (h0 : j ≠ 0) (hl : l.length = (m.slots.getD j []).length) (hv : ∀ x ∈ l, x < m.slots.length) : Inv F gn n { m with slots := m.slots.set j l } := by
  have hlen : (m.slots.set j l).length = m.slots.length := by simp
  refine ⟨h.st, h.g1, h.gsn, h.g1k, fun g hg => ?_, h.cnt, h.fn, h.pc, ?_, ?_, ?_, fun i => ?_, fun i x hx => ?_, ?_, h.gl, ?_, h.sl, h.k, h.wl, h.wt, h.s⟩
  · show (m.at g).stack.length = 16 ∧ ∀ a, (m.at g).val a < (m.slots.set j l).length
    rw [hlen]; exact h.stk g hg
  · show 0 < (m.slots.set j l).length
    rw [hlen]; exact h.s0
  · show (m.slots.set j l).getD 0 [] = []
    rw [getD_setL, if_neg (fun e => h0 e.1.symm)]; exact h.nil0
  · show (m.slots.set j l).length ≤ _
    rw [hlen]; exact h.sn
  · show ((m.slots.set j l).getD i []).length ≤ 256
    rw [getD_setL]; split
    · rw [hl]; exact h.on j
    · exact h.on i
  · have hx : x ∈ (m.slots.set j l).getD i [] := hx
    show x < (m.slots.set j l).length
    rw [hlen]
    rw [getD_setL] at hx
    split at hx
    · exact hv x hx
    · exact h.slv i x hx
  · rw [total_set m j l hl]; exact h.tot
  · show ∀ x ∈ m.globals, x < (m.slots.set j l).length
    rw [hlen]; exact h.glv
theorem Inv.glob {F : Fns} {gn n : Nat} {m : MS} (h : Inv F gn n m) {a v : Nat} (hv : v < m.slots.length) : Inv F gn n { m with globals := m.globals.set a v } := by
  refine ⟨h.st, h.g1, h.gsn, h.g1k, h.stk, h.cnt, h.fn, h.pc, h.s0, h.nil0, h.sn, h.on, h.slv, h.tot, by show (m.globals.set a v).length = gn; rw [List.length_set]; exact h.gl, fun x hx => ?_, h.sl, h.k, h.wl, h.wt, h.s⟩
  rcases List.mem_or_eq_of_mem_set hx with h1 | rfl
  · exact h.glv x h1
  · exact hv
/-- An object more. -/
theorem Inv.new {F : Fns} {gn n : Nat} {m : MS} (h : Inv F gn n m) {b : Nat} (hb : b < 256) (ht : total m + (b + 1) ≤ 256 * (n + 1)) : Inv F gn (n + 1) { m with slots := m.slots ++ [List.replicate (b + 1) 0] } := by
  have hlen : (m.slots ++ [List.replicate (b + 1) 0]).length = m.slots.length + 1 := by simp
  have hget : ∀ i, (m.slots ++ [List.replicate (b + 1) 0]).getD i [] = if i = m.slots.length then List.replicate (b + 1) 0 else m.slots.getD i [] := fun i => by
    rw [List.getD_eq_getElem?_getD, List.getD_eq_getElem?_getD]
    rcases Nat.lt_trichotomy i m.slots.length with hi | rfl | hi
    · rw [List.getElem?_append_left hi, if_neg (by omega)]
    · simp
    · rw [if_neg (by omega), List.getElem?_eq_none (by rw [hlen]; omega), List.getElem?_eq_none (by omega)]
  refine ⟨h.st, h.g1, by have := h.gsn; show m.gs.length ≤ _; omega, h.g1k, fun g hg => ?_, h.cnt, h.fn, h.pc, ?_, ?_, ?_, fun i => ?_, fun i x hx => ?_, ?_, h.gl, fun x hx => ?_, by have := h.sl; show m.sleep.length ≤ _; omega, by have := h.k; show m.k ≤ _; omega, h.wl, fun i => by have := h.wt i; show (m.wait.getD i []).length ≤ _; omega, h.s⟩
  · obtain ⟨h1, h2⟩ := h.stk g hg
    refine ⟨h1, fun a => ?_⟩
    show _ < (m.slots ++ [List.replicate (b + 1) 0]).length
    rw [hlen]
    exact Nat.lt_of_lt_of_le (h2 a) (by omega)
  · show 0 < (m.slots ++ [List.replicate (b + 1) 0]).length
    rw [hlen]; omega
  · show (m.slots ++ [List.replicate (b + 1) 0]).getD 0 [] = []
    rw [hget, if_neg (by have := h.s0; omega)]; exact h.nil0
  · show (m.slots ++ [List.replicate (b + 1) 0]).length ≤ _
    rw [hlen]; have := h.sn; omega
  · show ((m.slots ++ [List.replicate (b + 1) 0]).getD i []).length ≤ 256
    rw [hget]; split
    · simp; omega
    · exact h.on i
  · have hx : x ∈ (m.slots ++ [List.replicate (b + 1) 0]).getD i [] := hx
    show x < (m.slots ++ [List.replicate (b + 1) 0]).length
    rw [hlen]
    rw [hget] at hx
    split at hx
    · obtain ⟨-, rfl⟩ := List.mem_replicate.1 hx; omega
    · have := h.slv i x hx; omega
  · rw [total_app]; simpa using ht
  · have := h.glv x hx
    show x < (m.slots ++ [List.replicate (b + 1) 0]).length
    rw [hlen]; omega
/-- A goroutine more. -/
theorem Inv.spawn {F : Fns} {gn n : Nat} {m : MS} (h : Inv F gn n m) {f v : Nat} (h1k : m.gs.length < 1024) (hn : m.gs.length + 1 ≤ 1 + n) (hf : f < F.length) (hv : v < m.slots.length) : Inv F gn n (spawnM m f v) := by
  have ge : (spawnM m f v).gs.length = m.gs.length + 1 := by simp [spawnM]
  have e : ∀ i, i < m.gs.length → (spawnM m f v).at i = m.at i := fun i hi => by
    unfold MS.at spawnM
    show (m.gs ++ [newG f v]).getD i gs0 = _
    rw [List.getD_eq_getElem?_getD, List.getD_eq_getElem?_getD, List.getElem?_append_left hi]
  have e2 : (spawnM m f v).at m.gs.length = newG f v := by
    unfold MS.at spawnM
    show (m.gs ++ [newG f v]).getD _ gs0 = _
    simp
  have se : ∀ i, i < m.st.length → (m.st ++ [1]).getD i 0 = m.st.getD i 0 := fun i hi => by
    rw [List.getD_eq_getElem?_getD, List.getD_eq_getElem?_getD, List.getElem?_append_left hi]
  have hval : ∀ a, (newG f v).val a < m.slots.length := fun a => by
    unfold newG GS.val
    cases a with
    | zero => simpa using hv
    | succ a =>
      show (v :: List.replicate 15 0).getD (a + 1) 0 < _
      rw [List.getD_cons_succ, List.getD_eq_getElem?_getD, List.getElem?_replicate]
      have := h.s0
      split <;> simpa using this
  refine ⟨?_, by rw [ge]; omega, by rw [ge]; exact hn, by rw [ge]; omega, fun i hi => ?_, fun i hi => ?_, fun i hi => ?_, fun i hi => ?_, h.s0, h.nil0, h.sn, h.on, h.slv, h.tot, h.gl, h.glv, h.sl, h.k, h.wl, h.wt, h.s.more⟩
  · show (m.st ++ [1]).length = _
    rw [ge]; simp [h.st]
  · rw [ge] at hi
    by_cases hl : i < m.gs.length
    · rw [e i hl]; exact h.stk i hl
    · obtain rfl : i = m.gs.length := by omega
      rw [e2]; exact ⟨by simp [newG], hval⟩
  · rw [ge] at hi
    by_cases hl : i < m.gs.length
    · rw [e i hl]; exact h.cnt i hl
    · obtain rfl : i = m.gs.length := by omega
      rw [e2]; exact Nat.zero_le _
  · rw [ge] at hi
    by_cases hl : i < m.gs.length
    · rw [e i hl]; exact h.fn i hl
    · obtain rfl : i = m.gs.length := by omega
      rw [e2]; exact hf
  · rw [ge] at hi
    by_cases hl : i < m.gs.length
    · rw [e i hl]
      show _ ∧ ((m.st ++ [1]).getD i 0 ≠ 5 → _)
      rw [se i (by rw [h.st]; exact hl)]; exact h.pc i hl
    · obtain rfl : i = m.gs.length := by omega
      rw [e2]; exact ⟨Nat.zero_le _, fun _ => Nat.zero_le _⟩

theorem op_cases {op : Nat} (h : op < 18) : op = 0 ∨ op = 1 ∨ op = 2 ∨ op = 3 ∨ op = 4 ∨ op = 5 ∨ op = 6 ∨ op = 7 ∨ op = 8 ∨ op = 9 ∨ op = 10 ∨ op = 11 ∨ op = 12 ∨ op = 13 ∨ op = 14 ∨ op = 15 ∨ op = 16 ∨ op = 17 := by omega
theorem beg_at {m : MS} {g : Nat} (hg : g < m.gs.length) : (begM m g).at g = x1 m g := by
  have e := at_set (m.mv g 2) g g { m.at g with pc := (m.at g).pc + 1 }
  rw [if_pos ⟨rfl, hg⟩] at e
  exact e
theorem waits_no {m : MS} (S : SInv m.st m.sleep m.wait) {g : Nat} (h : m.st.getD g 0 ≠ 3) : waits m g = false := by
  have := S.lone h
  unfold waits
  rw [List.any_eq_false]
  intro l hl hc
  exact this (List.mem_append_right _ (List.mem_flatten.2 ⟨l, hl, by simpa using hc⟩))
/-- What an instruction does, cleanly. -/
theorem eff_op {m : MS} {g : Nat} (hg : g < m.gs.length) (hst : m.st.length = m.gs.length) (h1 : m.st.getD g 0 = 1) (S : SInv m.st m.sleep m.wait) (hwl : m.wait.length = 32) {op a b c : Nat} (ho : op < 18) (hw : (op = 11 ∨ op = 12) → a < 32) :
    (effM (begM m g) g op a b c).1.mv g ((effM (begM m g) g op a b c).2.2.getD 5) = opM m g op a b c ∧
    (if (effM (begM m g) g op a b c).2.2.isNone then 0 else (effM (begM m g) g op a b c).2.1) = opV m g op a b c ∧ (effM (begM m g) g op a b c).2.2.isNone = opBad m g op a b c := by
  have hx := beg_at hg
  have hgs : g < m.st.length := by omega
  have es : m.st.set g 1 = m.st := set_same _ _ _ h1 hgs
  have e1 := mv1 (s := 1) hgs h1 (by omega)
  rw [es] at e1
  have e3 := mv1 (s := 3) hgs h1 (by omega)
  have e5 := mv1 (s := 5) hgs h1 (by omega)
  have H5 : (begM m g).mv g 5 = deadM m g := by
    show MS.mv { m.put g (x1 m g) with st := moveS m.st g 2 } g 5 = _
    unfold MS.mv deadM; rw [e5]
  have H1 : ∀ y, ((begM m g).put g y).mv g 1 = m.put g y := fun y => by
    have : (begM m g).put g y = { m.put g y with st := moveS m.st g 2 } := by unfold begM MS.put MS.mv; simp [List.set_set]
    rw [this]; unfold MS.mv; dsimp only; rw [e1]; rfl
  have HB : (begM m g).mv g 1 = m.put g (x1 m g) := by
    show MS.mv { m.put g (x1 m g) with st := moveS m.st g 2 } g 1 = _
    unfold MS.mv; dsimp only; rw [e1]; rfl
  have HS : ∀ Z, MS.mv { begM m g with slots := Z } g 1 = { m.put g (x1 m g) with slots := Z } := fun Z => by
    show MS.mv { m.put g (x1 m g) with st := moveS m.st g 2, slots := Z } g 1 = _
    unfold MS.mv; dsimp only; rw [e1]; rfl
  have hv : ∀ i, (x1 m g).val i = (m.at g).val i := fun _ => rfl
  have hsl : (begM m g).slots = m.slots := rfl
  have hgl : (begM m g).gs.length = m.gs.length := by simp [begM, MS.put, MS.mv]
  rcases op_cases ho with rfl | rfl | rfl | rfl | rfl | rfl | rfl | rfl | rfl | rfl | rfl | rfl | rfl | rfl | rfl | rfl | rfl | rfl
  · exact ⟨H5, rfl, rfl⟩
  · refine ⟨?_, rfl, rfl⟩
    simp only [effM, opM, Option.getD_some, hx]
    show MS.mv { (begM m g).put g ((x1 m g).top a m.slots.length) with slots := _ } g 1 = _
    have : (begM m g).put g ((x1 m g).top a m.slots.length) = { m.put g ((x1 m g).top a m.slots.length) with st := moveS m.st g 2 } := by unfold begM MS.put MS.mv; simp [List.set_set]
    rw [this]; unfold MS.mv; dsimp only; rw [e1]; rfl
  · simp only [effM, opM, opV, opBad, hx, hsl, hv]
    by_cases hb : (m.at g).val b = 0 ∨ (m.slots.getD ((m.at g).val b) []).length ≤ c
    · simp only [if_pos hb, decide_eq_true hb]; exact ⟨H5, rfl, rfl⟩
    · simp only [if_neg hb, decide_eq_false hb]; exact ⟨H1 _, rfl, rfl⟩
  · simp only [effM, opM, opV, opBad, hx, hsl, hv]
    by_cases hb : (m.at g).val a = 0 ∨ (m.slots.getD ((m.at g).val a) []).length ≤ b
    · simp only [if_pos hb, decide_eq_true hb]; exact ⟨H5, rfl, rfl⟩
    · simp only [if_neg hb, decide_eq_false hb]; exact ⟨HS _, rfl, rfl⟩
  · simp only [effM, opM, hx]; exact ⟨H1 _, rfl, rfl⟩
  · simp only [effM, opM, hx]; exact ⟨H1 _, rfl, rfl⟩
  · simp only [effM, opM, hx]; exact ⟨H1 _, rfl, rfl⟩
  · refine ⟨?_, rfl, rfl⟩
    simp only [effM, opM, Option.getD_some, hx]
    show MS.mv { m.put g (x1 m g) with st := moveS m.st g 2, globals := _ } g 1 = _
    unfold MS.mv; dsimp only; rw [e1]; rfl
  · simp only [effM, opM, opV, opBad, hx, hgl]
    by_cases hb : m.gs.length < 1024
    · simp only [if_pos hb, show decide (1024 ≤ m.gs.length) = false from decide_eq_false (by omega)]
      refine ⟨?_, rfl, rfl⟩
      show MS.mv { m.put g (x1 m g) with gs := (m.put g (x1 m g)).gs ++ [_], st := moveS m.st g 2 ++ [1] } g 1 = _
      have e2 : moveS (moveS m.st g 2 ++ [1]) g 1 = moveS (moveS m.st g 2) g 1 ++ [1] := by
        have hl : g < (moveS m.st g 2).length := by unfold moveS; split <;> simp [hgs]
        generalize moveS m.st g 2 = L at hl ⊢
        unfold moveS
        rw [List.getD_eq_getElem?_getD, List.getD_eq_getElem?_getD, List.getElem?_append_left hl, List.set_append_left _ _ hl]
        split <;> rfl
      unfold MS.mv; dsimp only; rw [e2, e1]; rfl
    · simp only [if_neg hb, show decide (1024 ≤ m.gs.length) = true from decide_eq_true (by omega)]; exact ⟨H5, rfl, rfl⟩
  · exact ⟨HB, rfl, rfl⟩
  · refine ⟨?_, rfl, rfl⟩
    simp only [effM, opM, Option.getD_some]
    show MS.mv { m.put g (x1 m g) with st := moveS m.st g 2, sleep := _, k := _ } g 3 = _
    unfold MS.mv; dsimp only; rw [e3]; rfl
  · have hn : waits (begM m g) g = false := waits_no (m := m) S (by omega)
    simp only [effM, opM, Option.getD_some, hn]
    refine ⟨?_, rfl, rfl⟩
    show MS.mv { m.put g (x1 m g) with st := moveS m.st g 2, wait := _ } g 3 = _
    unfold MS.mv; dsimp only; rw [e3]; rfl
  · have hwt : (begM m g).wait = m.wait := rfl
    simp only [effM, opM, opV, opBad, hwt]
    cases hl : m.wait.getD a [] with
    | nil => exact ⟨HB, rfl, rfl⟩
    | cons w l =>
      refine ⟨?_, rfl, rfl⟩
      obtain ⟨k1, k2, -⟩ := S.wake (by rw [hwl]; exact hw (by omega)) hl
      have hne : w ≠ g := fun e => by rw [e] at k2; omega
      have e4 : moveS (moveS (moveS m.st g 2) w 1) g 1 = m.st.set w 1 := by
        have q1 : moveS m.st g 2 = m.st.set g 2 := by unfold moveS; rw [h1]; rfl
        have q2 : moveS (m.st.set g 2) w 1 = (m.st.set g 2).set w 1 := by
          unfold moveS; rw [getD_set _ _ _ _ hgs, if_neg hne, k2]; rfl
        have q3 : ((m.st.set g 2).set w 1).getD g 0 = 2 := by
          rw [getD_set _ w g 1 (by simpa using k1), if_neg (fun e => hne e.symm), getD_set _ _ _ _ hgs, if_pos rfl]
        rw [q1, q2]
        unfold moveS
        rw [q3]
        show ((m.st.set g 2).set w 1).set g 1 = _
        rw [List.set_comm _ _ hne, List.set_set, es]
      show MS.mv (MS.mv { m.put g (x1 m g) with st := moveS m.st g 2, wait := _ } w 1) g 1 = _
      unfold MS.mv; dsimp only; rw [e4]
  · refine ⟨HB, ?_, rfl⟩
    simp only [effM, opV, hx, hv]; rfl
  · simp only [effM, opM, hx]; exact ⟨H1 _, rfl, rfl⟩
  · simp only [effM, opM, opV, opBad, hx, hv]
    by_cases hb : (m.at g).val a = (m.at g).val b
    · simp only [if_pos hb]; exact ⟨H1 _, rfl, rfl⟩
    · simp only [if_neg hb]; exact ⟨HB, rfl, rfl⟩
  · simp only [effM, opM, hx]; exact ⟨H1 _, rfl, rfl⟩
  · simp only [effM, opM, opV, opBad, hx]
    by_cases hb : 0 < (x1 m g).count
    · simp only [if_pos hb]; exact ⟨H1 _, rfl, rfl⟩
    · simp only [if_neg hb]; exact ⟨HB, rfl, rfl⟩

/-- What an instruction keeps. -/
theorem inv_op {F : Fns} {gn n : Nat} {m : MS} (h : Inv F gn n m) {g : Nat} (hg : g < m.gs.length) (h1 : m.st.getD g 0 = 1) {op a b c : Nat} (f : Fit F gn op a b c) (hz : op ≠ 0 → (m.at g).pc < 64) : Inv F gn (n + 1) (opM m g op a b c) := by
  have u := h.le (Nat.le_succ n)
  obtain ⟨s1, s2⟩ := h.stk g hg
  have hgs : g < m.st.length := by rw [h.st]; exact hg
  have hp := (h.pc g hg).2 (by omega)
  have hne : m.st.getD g 0 ≠ 3 := by omega
  have xs : (x1 m g).stack.length = 16 ∧ ∀ a, (x1 m g).val a < m.slots.length := ⟨s1, s2⟩
  have xc := h.cnt g hg
  have xf := h.fn g hg
  have keep : ∀ i, i ≠ g → m.st.getD i 0 = 5 → m.st.getD i 0 = 5 := fun _ _ h => h
  have top : ∀ a v, v < m.slots.length → ((x1 m g).top a v).stack.length = 16 ∧ ∀ i, ((x1 m g).top a v).val i < m.slots.length := fun a v hv => by
    refine ⟨(List.length_set ..).trans s1, fun i => ?_⟩
    rw [val_top]
    split
    · exact hv
    · exact s2 i
  have set5 : ∀ s i, i ≠ g → m.st.getD i 0 = 5 → (m.st.set g s).getD i 0 = 5 := fun s i hi h5 => by rw [getD_set _ _ _ _ hgs, if_neg hi]; exact h5
  have D : Inv F gn (n + 1) (deadM m g) := u.put (x := x1 m g) hg xs xc xf (by show (m.at g).pc + 1 ≤ 65; omega) (by simp) (fun hh => by rw [getD_set _ _ _ _ hgs, if_pos rfl] at hh; exact absurd rfl hh) (set5 5) (h.s.turn hne (by omega)) u.sl u.k u.wl u.wt
  have P : op ≠ 0 → ∀ y : GS, (y.stack.length = 16 ∧ ∀ a, y.val a < m.slots.length) → y.count ≤ 65535 → y.f < F.length → y.pc ≤ 64 → Inv F gn (n + 1) (m.put g y) := fun ho y y1 y2 y3 y4 =>
    u.put hg y1 y2 y3 (by omega) rfl (fun _ => y4) keep h.s u.sl u.k u.wl u.wt
  have B : op ≠ 0 → Inv F gn (n + 1) (m.put g (x1 m g)) := fun ho => P ho _ xs xc xf (by show (m.at g).pc + 1 ≤ 64; have := hz ho; omega)
  have pc1 : op ≠ 0 → (x1 m g).pc ≤ 64 := fun ho => by show (m.at g).pc + 1 ≤ 64; have := hz ho; omega
  obtain ⟨ho, f1, f2, f3, f4, f5, f6, f7, f8, f9, f10, f11, f12⟩ := f
  rcases op_cases ho with rfl | rfl | rfl | rfl | rfl | rfl | rfl | rfl | rfl | rfl | rfl | rfl | rfl | rfl | rfl | rfl | rfl | rfl
  · exact D
  · have b1 := f4 rfl
    have I := h.new (b := b) b1 (by have := h.tot; omega)
    have hl : (m.slots ++ [List.replicate (b + 1) 0]).length = m.slots.length + 1 := by simp
    refine I.put (x := (x1 m g).top a m.slots.length) hg ⟨(List.length_set ..).trans s1, fun i => ?_⟩ xc xf (by have := pc1 (by omega); show (x1 m g).pc ≤ 65; omega) rfl (fun _ => pc1 (by omega)) keep h.s I.sl I.k I.wl I.wt
    show _ < (m.slots ++ [List.replicate (b + 1) 0]).length
    rw [hl, val_top]
    split
    · omega
    · exact Nat.lt_succ_of_lt (s2 i)
  · simp only [opM]
    split
    · exact D
    · next q =>
      refine P (by omega) _ (top _ _ ?_) xc xf (pc1 (by omega))
      have hlt : c < (m.slots.getD ((x1 m g).val b) []).length := by omega
      refine h.slv ((x1 m g).val b) _ ?_
      generalize m.slots.getD ((x1 m g).val b) [] = L at hlt ⊢
      rw [List.getD_eq_getElem?_getD, List.getElem?_eq_getElem hlt]
      exact List.getElem_mem hlt
  · simp only [opM]
    split
    · exact D
    · next q =>
      refine (B (by omega)).obj (j := (x1 m g).val a) (fun e => q (.inl e)) (by simp [MS.put]) (fun x hx => ?_)
      rcases List.mem_or_eq_of_mem_set hx with h1 | rfl
      · exact h.slv _ x h1
      · exact s2 c
  · exact P (by omega) _ (top _ _ (s2 b)) xc xf (pc1 (by omega))
  · exact P (by omega) _ (top _ _ h.s0) xc xf (pc1 (by omega))
  · refine P (by omega) _ (top _ _ ?_) xc xf (pc1 (by omega))
    rw [List.getD_eq_getElem?_getD]
    cases hq : m.globals[b]? with
    | none => exact h.s0
    | some v => exact h.glv v (List.mem_of_getElem? hq)
  · exact (B (by omega)).glob (s2 b)
  · simp only [opM]
    split
    · next q =>
      have ge : (m.put g (x1 m g)).gs.length = m.gs.length := by simp [MS.put]
      refine (B (by omega)).spawn (by rw [ge]; exact q) (by rw [ge]; have := h.gsn; omega) (f7 rfl) (s2 b)
    · exact D
  · exact B (by omega)
  · have hl := (T13.insT_perm (((m.clock + (256 * b + c + 1) : Nat) : Int), (g : Int), (m.k : Int) + 1) m.sleep).length_eq
    rw [List.length_append, List.length_singleton] at hl
    exact u.put (x := x1 m g) hg xs xc xf (by have := pc1 (by omega); omega) (by simp) (fun _ => pc1 (by omega)) (set5 3) (h.s.sleep hgs hne _ _) (by rw [hl]; have := h.sl; omega) (by have := h.k; omega) u.wl u.wt
  · have ha := f9 (by omega)
    refine u.put (x := x1 m g) hg xs xc xf (by have := pc1 (by omega); omega) (by simp) (fun _ => pc1 (by omega)) (set5 3) (h.s.block hgs hne (by rw [h.wl]; exact ha)) u.sl u.k (by rw [List.length_set]; exact h.wl) (fun i => ?_)
    rw [getD_setL]
    split
    · rw [List.length_append, List.length_singleton]; have := h.wt a; omega
    · exact u.wt i
  · have ha := f9 (by omega)
    simp only [opM]
    cases hl : m.wait.getD a [] with
    | nil => exact B (by omega)
    | cons w l =>
      obtain ⟨k1, k2, k3⟩ := h.s.wake (by rw [h.wl]; exact ha) hl
      have hne2 : w ≠ g := fun e => by rw [e] at k2; omega
      refine u.put (x := x1 m g) hg xs xc xf (by have := pc1 (by omega); omega) (by simp) (fun _ => pc1 (by omega)) (fun i hi h5 => ?_) k3 u.sl u.k (by rw [List.length_set]; exact h.wl) (fun i => ?_)
      · rw [getD_set _ _ _ _ k1]
        split
        · next e => rw [e, k2] at h5; omega
        · exact h5
      · rw [getD_setL]
        split
        · have := u.wt a; rw [hl] at this; simp at this; omega
        · exact u.wt i
  · exact B (by omega)
  · exact P (by omega) _ xs xc xf (by have := f10 (by omega); show a ≤ 64; omega)
  · simp only [opM]
    split
    · exact P (by omega) _ xs xc xf (by have := f11 rfl; show c ≤ 64; omega)
    · exact B (by omega)
  · exact P (by omega) _ xs (by have := f12 rfl; show 256 * a + b ≤ 65535; omega) xf (pc1 (by omega))
  · simp only [opM]
    split
    · exact P (by omega) _ xs (by show (m.at g).count - 1 ≤ 65535; omega) xf (by have := f10 (by omega); show a ≤ 64; omega)
    · exact B (by omega)

end Go.Proofs.YtmlobpapjfkbmaaGreat

/- Instructions of a program that may be: plain. -/
namespace Go.Proofs.YtmlobpapjfkbmaaGreat
set_option linter.unusedVariables false
set_option maxRecDepth 20000
set_option linter.unusedSimpArgs false

theorem ok_lt {g f s : Int} {op k : Nat} {v : Int} (h : C15.okP g f s op k v = true) : 0 ≤ v ∧ v < C15.lim g f s (C15.kd op k) := of_decide_eq_true h
/-- A goroutine's next instruction fits. -/
theorem inst_fit {gn : Nat} {F : Fns} (hm : C15.mayI gn F = 0) {x : GS} (hf : x.f < F.length) :
    ∃ op a b c : Nat, instAt F x = ((op : Int), (a : Int), (b : Int), (c : Int)) ∧ Fit F gn op a b c ∧ (op ≠ 0 → x.pc < 64) := by
  have M := C15.may_zero hm
  obtain ⟨l, hl⟩ : ∃ l, F[x.f]? = some l := ⟨F[x.f], by simp [hf]⟩
  have hmem := List.mem_of_getElem? hl
  have e : instAt F x = l.getD x.pc (0, 0, 0, 0) := by unfold instAt; simp [hl]
  by_cases hp : x.pc < l.length
  · have hx : l.getD x.pc (0, 0, 0, 0) = l[x.pc] := by simp [hp]
    have hw := M.x1 l hmem l[x.pc] (List.getElem_mem hp)
    rw [e, hx]
    obtain ⟨y, hy⟩ : ∃ y, l[x.pc] = y := ⟨_, rfl⟩
    rw [hy] at hw ⊢
    obtain ⟨i0, i1, i2, i3⟩ := y
    obtain ⟨h0, h1, h2, h3⟩ := C15.wrongI_neg hw
    (try dsimp only at h0 h1 h2 h3)
    have hll := M.l1 l hmem
    have hn2 := M.n2
    have hg2 := M.g2
    obtain ⟨op, rfl⟩ : ∃ op : Nat, i0 = (op : Int) := ⟨i0.toNat, by omega⟩
    rw [Int.toNat_natCast] at h1 h2 h3
    obtain ⟨k1, k2⟩ := ok_lt h1
    obtain ⟨k3, k4⟩ := ok_lt h2
    obtain ⟨k5, k6⟩ := ok_lt h3
    obtain ⟨a, rfl⟩ : ∃ a : Nat, i1 = (a : Int) := ⟨i1.toNat, by omega⟩
    obtain ⟨b, rfl⟩ : ∃ b : Nat, i2 = (b : Int) := ⟨i2.toNat, by omega⟩
    obtain ⟨c, rfl⟩ : ∃ c : Nat, i3 = (c : Int) := ⟨i3.toNat, by omega⟩
    refine ⟨op, a, b, c, rfl, ?_, fun _ => by omega⟩
    have ho : op < 18 := by omega
    clear h1 h2 h3 hw hx e hl hy
    rcases op_cases ho with rfl | rfl | rfl | rfl | rfl | rfl | rfl | rfl | rfl | rfl | rfl | rfl | rfl | rfl | rfl | rfl | rfl | rfl <;>
      (simp [C15.kd, C15.kdT, C15.lim] at k2 k4 k6; constructor <;> intros <;> omega)
  · have hx : l.getD x.pc (0, 0, 0, 0) = (0, 0, 0, 0) := by simp [Nat.not_lt.1 hp]
    rw [e, hx]
    exact ⟨0, 0, 0, 0, rfl, by constructor <;> intros <;> omega, fun h => absurd rfl h⟩

end Go.Proofs.YtmlobpapjfkbmaaGreat

/- A model's Do, of anybody. -/
namespace Go.Proofs.YtmlobpapjfkbmaaGreat
open Go.RowKit
set_option linter.unusedVariables false
set_option maxRecDepth 20000
set_option linter.unusedSimpArgs false

/-- What a goroutine's next instruction leaves. -/
def stepM (F : Fns) (m : MS) (g : Nat) : MS := opM m g (instAt F (m.at g)).1.toNat (instAt F (m.at g)).2.1.toNat (instAt F (m.at g)).2.2.1.toNat (instAt F (m.at g)).2.2.2.toNat
/-- What is told of it. -/
def tells (F : Fns) (m : MS) (g : Nat) : Cm := ⟨g, (m.at g).f, (m.at g).pc, (instAt F (m.at g)).1,
  opV m g (instAt F (m.at g)).1.toNat (instAt F (m.at g)).2.1.toNat (instAt F (m.at g)).2.2.1.toNat (instAt F (m.at g)).2.2.2.toNat,
  opBad m g (instAt F (m.at g)).1.toNat (instAt F (m.at g)).2.1.toNat (instAt F (m.at g)).2.2.1.toNat (instAt F (m.at g)).2.2.2.toNat⟩

theorem step_is {F : Fns} {gn n : Nat} {m : MS} (I : Inv F gn n m) (hm : C15.mayI gn F = 0) {g : Nat} (hg : g < m.gs.length) (h1 : m.st.getD g 0 = 1) : doM F m g = stepM F m g ∧ tellM F m g = tells F m g ∧ Inv F gn (n + 1) (stepM F m g) := by
  obtain ⟨op, a, b, c, hi, f, hz⟩ := inst_fit hm (I.fn g hg)
  obtain ⟨k1, k2, k3⟩ := eff_op hg I.st h1 I.s I.wl (op := op) (a := a) (b := b) (c := c) f.o18 f.wt
  have he : effI F m g = effM (begM m g) g op a b c := by
    unfold effI; rw [hi]; simp only [Int.toNat_natCast]
  refine ⟨?_, ?_, ?_⟩
  · unfold doM stepM; rw [he, hi]; simp only [Int.toNat_natCast]; exact k1
  · unfold tellM tells; rw [he, hi]; simp only [Int.toNat_natCast]; rw [k2, k3]
  · unfold stepM; rw [hi]; simp only [Int.toNat_natCast]; exact inv_op I hg h1 f hz
theorem may_pf {gn : Nat} {F : Fns} (hm : C15.mayI gn F = 0) : Pf F := ⟨(C15.may_zero hm).n2, fun l hl => ((C15.may_zero hm).l1 l hl).2⟩
theorem may_gn {gn : Nat} {F : Fns} (hm : C15.mayI gn F = 0) : gn ≤ 32 := by have := (C15.may_zero hm).g2; omega

theorem do_go {w : World} {A : Adr} {t : Nat → Tg} {mb : Nat} {F : Fns} {gn n : Nat} {m : MS} (h : Md w A t mb F m) (nw : New w t) (hp : A.pb ≤ w.heap.size) (hm : C15.mayI gn F = 0) (I : Inv F gn n m) (W : Wf m) {g : Nat} (hg : g < m.gs.length) (h1 : m.st.getD g 0 = 1) :
    Calls Tryz.prog 12 #[.pointer (some ⟨mb, 0, none⟩), .int .i64 (g : Nat)] w fun e w' => e = .returned (.tuple #[cmV (tells F m g), .int .i64 0]) ∧ MdR w A t mb F (stepM F m g) w' := by
  obtain ⟨op, a, b, c, hi, f, hz⟩ := inst_fit hm (I.fn g hg)
  obtain ⟨k1, k2, -⟩ := step_is I hm hg h1
  have := do_run h nw hp (may_pf hm) W I.g1k hg h1 (I.fn g hg) (by have := (I.pc g hg).1; omega) op a b c hi f.o18 (f.ok I.gl)
  rw [k1, k2] at this
  exact this
theorem sta_is {F : Fns} {gn n : Nat} {m : MS} (I : Inv F gn n m) (g : Nat) : staI m g = m.st.getD g 0 := by
  unfold staI
  by_cases hg : g < m.st.length
  · have := I.s.sts g hg
    rw [if_neg (by omega)]
  · have : m.st.getD g 0 = 0 := by simp [Nat.not_lt.1 hg]
    rw [if_neg (by omega)]
theorem do_cant {w : World} {A : Adr} {t : Nat → Tg} {mb : Nat} {F : Fns} {gn n : Nat} {m : MS} (h : Md w A t mb F m) (I : Inv F gn n m) {g : Nat} (hg : g < m.gs.length) (h1 : m.st.getD g 0 ≠ 1) :
    Calls Tryz.prog 12 #[.pointer (some ⟨mb, 0, none⟩), .int .i64 (g : Nat)] w fun e w' => e = .returned (.tuple #[noCm, .int .i64 5]) ∧ Ex w w' := by
  have := do_not (w := w) (mb := mb) (g : Nat) (m.st.getD g 0) h1 (fun W x => state_any (h.exs x) g _ (sta_is I g))
  rw [if_neg (by have := I.s.sts g (by rw [I.st]; exact hg); omega)] at this
  exact this
theorem do_nobody {w : World} {A : Adr} {t : Nat → Tg} {mb : Nat} {F : Fns} {gn n : Nat} {m : MS} (h : Md w A t mb F m) (I : Inv F gn n m) {g : Int} (hg : g < 0 ∨ (m.gs.length : Int) ≤ g) :
    Calls Tryz.prog 12 #[.pointer (some ⟨mb, 0, none⟩), .int .i64 g] w fun e w' => e = .returned (.tuple #[noCm, .int .i64 4]) ∧ Ex w w' := by
  have K : ∀ W, Ex w W → Calls Tryz.prog 18 #[.pointer (some ⟨mb, 0, none⟩), .int .i64 g] W fun e w' => e = .returned (.int .i64 ((0 : Nat) : Int)) ∧ W = w' := fun W x => by
    rcases hg with hg | hg
    · exact state_neg (h.exs x) g hg
    · obtain ⟨k, rfl⟩ : ∃ k : Nat, g = (k : Int) := ⟨g.toNat, by omega⟩
      refine state_any (h.exs x) k 0 ?_
      rw [sta_is I]
      simp [show m.st.length ≤ k by have := I.st; omega]
  exact do_not (w := w) (mb := mb) g 0 (by omega) K

end Go.Proofs.YtmlobpapjfkbmaaGreat

