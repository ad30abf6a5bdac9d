/- Part 6 of what is proved of the program of layer 16: ModelP, Md16, MdU16, OpsT16, OpsA16. -/
import Derived.Test.YtmlobpapjfkbmaaGreatK4
import Derived.Test.YtmlobpapjfkbmaaGreatK5
import Derived.Test.YtmlobpapjfkbmaaGreatK2
import Derived.Tactics
import Derived.BigRegion
import Derived.Great.Walk
/- Scripts that are played: plain. -/
namespace Go.Proofs.YtmlobpapjfkbmaaGreat
set_option linter.unusedVariables false
set_option maxRecDepth 20000

abbrev Fns := List (List C15.I4)
structure GS where
  f : Nat
  pc : Nat
  count : Nat
  stack : List Nat
structure MS where
  gs : List GS
  st : List Nat
  globals : List Nat
  slots : List (List Nat)
  sleep : List T13.T3
  k : Nat
  wait : List (List Nat)
  clock : Nat

def gs0 : GS := ⟨0, 0, 0, []⟩
def MS.at (m : MS) (g : Nat) : GS := m.gs.getD g gs0
def MS.sta (m : MS) (g : Nat) : Nat := m.st.getD g 0
def MS.put (m : MS) (g : Nat) (x : GS) : MS := { m with gs := m.gs.set g x }
/-- A state is turned, if it may. -/
def moveS (L : List Nat) (g t : Nat) : List Nat := if S12.mayB (L.getD g 0 : Nat) (t : Nat) = true then L.set g t else L
def MS.mv (m : MS) (g t : Nat) : MS := { m with st := moveS m.st g t }
/-- The next instruction; beyond the end: exit. -/
def instAt (F : Fns) (x : GS) : C15.I4 := (F.getD x.f []).getD x.pc (0, 0, 0, 0)
def GS.top (x : GS) (a : Nat) (v : Nat) : GS := { x with stack := x.stack.set a v }
def GS.val (x : GS) (a : Nat) : Nat := x.stack.getD a 0
/-- A new goroutine. -/
def newG (f v : Nat) : GS := ⟨f, 0, 0, v :: List.replicate 15 0⟩
def spawnM (m : MS) (f v : Nat) : MS := { m with gs := m.gs ++ [newG f v], st := m.st ++ [1] }
def waits (m : MS) (g : Nat) : Bool := m.wait.any (fun l => l.contains g)

/-- What an instruction does: the model, the value, the state behind; none: it can't be done. -/
def effM (m : MS) (g : Nat) (op a b c : Nat) : MS × Int × Option Nat :=
  let x := m.at g
  match op with
  | 0 => (m, 0, some 5)
  | 1 => (({ m with slots := m.slots ++ [List.replicate (b + 1) 0] }).put g (x.top a m.slots.length), (m.slots.length : Int), some 1)
  | 2 => if x.val b = 0 ∨ (m.slots.getD (x.val b) []).length ≤ c then (m, 0, none) else
      (m.put g (x.top a ((m.slots.getD (x.val b) []).getD c 0)), (((m.slots.getD (x.val b) []).getD c 0 : Nat) : Int), some 1)
  | 3 => if x.val a = 0 ∨ (m.slots.getD (x.val a) []).length ≤ b then (m, 0, none) else
      ({ m with slots := m.slots.set (x.val a) ((m.slots.getD (x.val a) []).set b (x.val c)) }, 0, some 1)
  | 4 => (m.put g (x.top a (x.val b)), 0, some 1)
  | 5 => (m.put g (x.top a 0), 0, some 1)
  | 6 => (m.put g (x.top a (m.globals.getD b 0)), 0, some 1)
  | 7 => ({ m with globals := m.globals.set a (x.val b) }, 0, some 1)
  | 8 => if m.gs.length < 1024 then (spawnM m a (x.val b), (m.gs.length : Int), some 1) else (m, -1, none)
  | 9 => (m, 0, some 1)
  | 10 => ({ m with sleep := T13.insT (((m.clock + (256 * b + c + 1) : Nat) : Int), (g : Int), (m.k : Int) + 1) m.sleep, k := m.k + 1 }, 0, some 3)
  | 11 => (if waits m g then m else { m with wait := m.wait.set a (m.wait.getD a [] ++ [g]) }, 0, some 3)
  | 12 => match m.wait.getD a [] with
    | [] => (m, -1, some 1)
    | w :: l => (({ m with wait := m.wait.set a l }).mv w 1, (w : Int), some 1)
  | 13 => (m, if x.val a = x.val b then 1 else 0, some 1)
  | 14 => (m.put g { x with pc := a }, 0, some 1)
  | 15 => (if x.val a = x.val b then m.put g { x with pc := c } else m, 0, some 1)
  | 16 => (m.put g { x with count := 256 * a + b }, 0, some 1)
  | 17 => (if 0 < x.count then m.put g { x with count := x.count - 1, pc := a } else m, 0, some 1)
  | _ => (m, 0, some 1)

/-- The instruction is begun. -/
def begM (m : MS) (g : Nat) : MS := (m.mv g 2).put g { m.at g with pc := (m.at g).pc + 1 }
def effI (F : Fns) (m : MS) (g : Nat) : MS × Int × Option Nat :=
  let i := instAt F (m.at g)
  effM (begM m g) g i.1.toNat i.2.1.toNat i.2.2.1.toNat i.2.2.2.toNat
/-- An instruction is done by a goroutine that may run. -/
def doM (F : Fns) (m : MS) (g : Nat) : MS := (effI F m g).1.mv g ((effI F m g).2.2.getD 5)
/-- What is told of it. -/
structure Cm where
  g : Nat
  f : Nat
  pc : Nat
  op : Int
  v : Int
  bad : Bool
def tellM (F : Fns) (m : MS) (g : Nat) : Cm :=
  ⟨g, (m.at g).f, (m.at g).pc, (instAt F (m.at g)).1, if (effI F m g).2.2.isNone then 0 else (effI F m g).2.1, (effI F m g).2.2.isNone⟩

end Go.Proofs.YtmlobpapjfkbmaaGreat

/- A model in memory: its blocks are told apart by tags. -/
namespace Go.Proofs.YtmlobpapjfkbmaaGreat
open Go.RowKit
set_option linter.unusedVariables false
set_option maxRecDepth 20000

abbrev Tg := Nat × Nat
/-- A block that is known whole, with its tag. -/
structure PBox (w : World) (t : Nat → Tg) (b : Nat) (cs : Array Value) (ty : TypeId) (k : Tg) : Prop where
  box : Box w b cs ty
  tag : t b = k
/-- A row, with its tag. -/
structure PRow (w : World) (t : Nat → Tg) (v : Value) (e : TypeId) (n : Nat) (xs : List Value) (k : Tg) : Prop where
  row : w.ownsRow 0 e 1 v n xs
  tag : ∀ b, v.ownBlock = some b → t b = k

theorem PBox.keep {w w' : World} {t : Nat → Tg} {b : Nat} {cs : Array Value} {ty : TypeId} {k : Tg} {P : Nat → Prop} (h : PBox w t b cs ty k) (c : Chg P w w') (hP : ¬ P b) : PBox w' t b cs ty k := ⟨h.box.chg c hP, h.tag⟩
theorem PRow.keep {w w' : World} {t : Nat → Tg} {v : Value} {e : TypeId} {n : Nat} {xs : List Value} {k : Tg} {P : Nat → Prop} (h : PRow w t v e n xs k) (c : Chg P w w') (hP : ∀ b, t b = k → ¬ P b) : PRow w' t v e n xs k :=
  ⟨row_chg h.row c (fun g hg => hP g (h.tag g hg)), h.tag⟩
theorem PBox.retag {w : World} {t t' : Nat → Tg} {b : Nat} {cs : Array Value} {ty : TypeId} {k : Tg} (h : PBox w t b cs ty k) (hx : ∀ i, i < w.heap.size → t' i = t i) : PBox w t' b cs ty k := ⟨h.box, (hx b h.box.lt).trans h.tag⟩
theorem row_lt {w : World} {v : Value} {e : TypeId} {size B n : Nat} {xs : List Value} (h : w.ownsRow B e size v n xs) {b : Nat} (hb : v.ownBlock = some b) : b < w.heap.size := by
  rcases row_shape h with ⟨rfl, -⟩ | ⟨g, cap, rfl, -, h3, -⟩
  · cases hb
  · cases hb; exact h3
theorem PRow.retag {w : World} {t t' : Nat → Tg} {v : Value} {e : TypeId} {n : Nat} {xs : List Value} {k : Tg} (h : PRow w t v e n xs k) (hx : ∀ i, i < w.heap.size → t' i = t i) : PRow w t' v e n xs k :=
  ⟨h.row, fun b hb => (hx b (row_lt h.row hb)).trans (h.tag b hb)⟩

/-- Where a model's parts lie. -/
structure Adr where
  sb : Nat
  sv : Value
  gv : Value
  Gv : Value
  lv : Value
  tbase : Nat
  tb : Nat
  tr : Option Nat
  wb : Nat
  gb : Nat → Nat
  ov : Nat → Value
  wv : Nat → Value
  gn : Int
  fv : Value
  pb : Nat

def gcells (x : GS) : Array Value := (.int .i64 (x.f : Nat) :: .int .i64 (x.pc : Nat) :: .int .i64 (x.count : Nat) :: S12.ints x.stack).toArray
def mcells (A : Adr) (clock : Nat) : Array Value := #[.int .i64 A.gn, A.fv, .pointer (some ⟨A.sb, 0, none⟩), A.gv, A.Gv, A.lv, .pointer (some ⟨A.tb, 0, none⟩), .pointer (some ⟨A.wb, 0, none⟩), .int .i64 (clock : Nat)]
def ptrs (b : Nat → Nat) (n : Nat) : List Value := (List.range n).map fun i => .pointer (some ⟨b i, 0, none⟩)
def MS.obj (m : MS) (i : Nat) : List Nat := m.slots.getD i []
def MS.wat (m : MS) (i : Nat) : List Nat := m.wait.getD i []

structure Md (w : World) (A : Adr) (t : Nat → Tg) (mb : Nat) (F : Fns) (m : MS) : Prop where
  box : PBox w t mb (mcells A m.clock) 70 (1, 0)
  st : S12.St w A.sb A.sv m.st
  stt : t A.sb = (2, 0) ∧ ∀ b, A.sv.ownBlock = some b → t b = (3, 0)
  grow : PRow w t A.gv 78 m.gs.length (ptrs A.gb m.gs.length) (4, 0)
  gor : ∀ i, i < m.gs.length → PBox w t (A.gb i) (gcells (m.at i)) 81 (10, i)
  glob : PRow w t A.Gv 3 m.globals.length (S12.ints m.globals) (5, 0)
  slr : PRow w t A.lv 37 m.slots.length ((List.range m.slots.length).map A.ov) (6, 0)
  slot : ∀ i, i < m.slots.length → PRow w t (A.ov i) 3 (m.obj i).length (S12.ints (m.obj i)) (11, i)
  tm : T13.TS w A.tbase A.tb A.tr m.k m.sleep
  tmt : t A.tb = (7, 0) ∧ ∀ b, A.tr = some b → t b = (8, 0)
  wbox : PBox w t A.wb ((List.range 32).map A.wv).toArray 107 (9, 0)
  wait : ∀ i, i < 32 → PRow w t (A.wv i) 3 (m.wat i).length (S12.ints (m.wat i)) (12, i)
  wlen : m.wait.length = 32
  prog : ∀ W, Chg (fun i => (t i).1 ≠ 0 ∨ A.pb ≤ i) w W → C15.RdP W A.fv F

/-- What lies behind is nobody's. -/
def New (w : World) (t : Nat → Tg) : Prop := ∀ i, w.heap.size ≤ i → (t i).1 = 0

end Go.Proofs.YtmlobpapjfkbmaaGreat

/- A model in memory: one part turned at a time. -/
namespace Go.Proofs.YtmlobpapjfkbmaaGreat
open Go.RowKit
set_option linter.unusedVariables false
set_option maxRecDepth 20000

/-- P lies in blocks of these tags, or in nobody's behind B. -/
def Lo (t : Nat → Tg) (B : Nat) (Ks : List Tg) (P : Nat → Prop) : Prop := ∀ i, P i → t i ∈ Ks ∨ ((t i).1 = 0 ∧ B ≤ i)
theorem tn {t : Nat → Tg} {B : Nat} {k : Tg} {Ks : List Tg} (h : k ∉ Ks ∧ k.1 ≠ 0) {P : Nat → Prop} (hP : Lo t B Ks P) {b : Nat} (hb : t b = k) : ¬ P b := fun h' => by
  rcases hP b h' with h1 | ⟨h1, -⟩
  · exact h.1 (hb ▸ h1)
  · exact h.2 (hb ▸ h1)
theorem Md.prog_next {w w' : World} {A : Adr} {t : Nat → Tg} {mb : Nat} {F : Fns} {m : MS} (h : Md w A t mb F m) {P : Nat → Prop} (c : Chg P w w') (hP : ∀ i, P i → (t i).1 ≠ 0 ∨ A.pb ≤ i) : ∀ W, Chg (fun i => (t i).1 ≠ 0 ∨ A.pb ≤ i) w' W → C15.RdP W A.fv F :=
  fun W hW => h.prog W ((c.weak (fun i _ hi => hP i hi)).trans hW (fun _ _ h => h))
theorem at_set (m : MS) (g i : Nat) (x : GS) : (m.put g x).at i = if g = i ∧ i < m.gs.length then x else m.at i := by
  unfold MS.at MS.put
  by_cases h : g = i
  · subst h
    by_cases h2 : g < m.gs.length
    · simp [h2]
    · simp [h2]
  · simp [h]

/-- Nothing of it has turned. -/
theorem Md.ex {w w' : World} {A : Adr} {t : Nat → Tg} {mb : Nat} {F : Fns} {m : MS} (h : Md w A t mb F m) {P : Nat → Prop}  (c : Chg P w w') (hP : Lo t A.pb [] P) : Md w' A t mb F m := by
  have hP0 : ∀ i, P i → (t i).1 ≠ 0 ∨ A.pb ≤ i := fun i hi => by
    rcases hP i hi with this | ⟨-, h2⟩
    · left; revert this; generalize t i = k; intro this; rcases k with ⟨k1, k2⟩; simp at this ⊢ <;> omega
    · exact .inr h2
  exact {
    box := h.box.keep c (tn (by simp) hP h.box.tag)
    st := h.st.chg c (fun i hi => by rcases hi with rfl | hi; exact tn (by simp) hP h.stt.1; exact tn (by simp) hP (h.stt.2 i hi))
    stt := h.stt
    grow := h.grow.keep c (fun b hb => tn (by simp) hP hb)
    gor := fun i hi => (h.gor i hi).keep c (tn (by simp) hP (h.gor i hi).tag)
    glob := h.glob.keep c (fun b hb => tn (by simp) hP hb)
    slr := h.slr.keep c (fun b hb => tn (by simp) hP hb)
    slot := fun i hi => (h.slot i hi).keep c (fun b hb => tn (by simp) hP hb)
    tm := h.tm.chg c (tn (by simp) hP h.tmt.1) (fun g hg => tn (by simp) hP (h.tmt.2 g hg))
    tmt := h.tmt
    wbox := h.wbox.keep c (tn (by simp) hP h.wbox.tag)
    wait := fun i hi => (h.wait i hi).keep c (fun b hb => tn (by simp) hP hb)
    wlen := h.wlen
    prog := h.prog_next c hP0
  }

/-- A goroutine's block is written. -/
theorem Md.gput {w w' : World} {A : Adr} {t : Nat → Tg} {mb : Nat} {F : Fns} {m : MS} (h : Md w A t mb F m) {P : Nat → Prop} (g : Nat) (x : GS) (hg : Box w' (A.gb g) (gcells x) 81) (c : Chg P w w') (hP : Lo t A.pb [(10, g)] P) : Md w' A t mb F (m.put g x) := by
  have hP0 : ∀ i, P i → (t i).1 ≠ 0 ∨ A.pb ≤ i := fun i hi => by
    rcases hP i hi with this | ⟨-, h2⟩
    · left; revert this; generalize t i = k; intro this; rcases k with ⟨k1, k2⟩; simp at this ⊢ <;> omega
    · exact .inr h2
  exact {
    box := h.box.keep c (tn (by simp) hP h.box.tag)
    st := h.st.chg c (fun i hi => by rcases hi with rfl | hi; exact tn (by simp) hP h.stt.1; exact tn (by simp) hP (h.stt.2 i hi))
    stt := h.stt
    grow := by
      have e : (m.put g x).gs.length = m.gs.length := by simp [MS.put]
      rw [e]
      exact h.grow.keep c (fun b hb => tn (by simp) hP hb)
    gor := fun i hi => by
      have hi : i < m.gs.length := by simpa [MS.put] using hi
      rw [at_set]
      by_cases e : g = i
      · subst e; rw [if_pos ⟨rfl, hi⟩]; exact ⟨hg, (h.gor g hi).tag⟩
      · rw [if_neg (fun h => e h.1)]; exact (h.gor i hi).keep c (tn (by simp; omega) hP (h.gor i hi).tag)
    glob := h.glob.keep c (fun b hb => tn (by simp) hP hb)
    slr := h.slr.keep c (fun b hb => tn (by simp) hP hb)
    slot := fun i hi => (h.slot i hi).keep c (fun b hb => tn (by simp) hP hb)
    tm := h.tm.chg c (tn (by simp) hP h.tmt.1) (fun g hg => tn (by simp) hP (h.tmt.2 g hg))
    tmt := h.tmt
    wbox := h.wbox.keep c (tn (by simp) hP h.wbox.tag)
    wait := fun i hi => (h.wait i hi).keep c (fun b hb => tn (by simp) hP hb)
    wlen := h.wlen
    prog := h.prog_next c hP0
  }

/-- The clock is written. -/
theorem Md.tick {w w' : World} {A : Adr} {t : Nat → Tg} {mb : Nat} {F : Fns} {m : MS} (h : Md w A t mb F m) {P : Nat → Prop} (k : Nat) (hb : Box w' mb (mcells A k) 70) (c : Chg P w w') (hP : Lo t A.pb [(1, 0)] P) : Md w' A t mb F { m with clock := k } := by
  have hP0 : ∀ i, P i → (t i).1 ≠ 0 ∨ A.pb ≤ i := fun i hi => by
    rcases hP i hi with this | ⟨-, h2⟩
    · left; revert this; generalize t i = k; intro this; rcases k with ⟨k1, k2⟩; simp at this ⊢ <;> omega
    · exact .inr h2
  exact {
    box := ⟨hb, h.box.tag⟩
    st := h.st.chg c (fun i hi => by rcases hi with rfl | hi; exact tn (by simp) hP h.stt.1; exact tn (by simp) hP (h.stt.2 i hi))
    stt := h.stt
    grow := h.grow.keep c (fun b hb => tn (by simp) hP hb)
    gor := fun i hi => (h.gor i hi).keep c (tn (by simp) hP (h.gor i hi).tag)
    glob := h.glob.keep c (fun b hb => tn (by simp) hP hb)
    slr := h.slr.keep c (fun b hb => tn (by simp) hP hb)
    slot := fun i hi => (h.slot i hi).keep c (fun b hb => tn (by simp) hP hb)
    tm := h.tm.chg c (tn (by simp) hP h.tmt.1) (fun g hg => tn (by simp) hP (h.tmt.2 g hg))
    tmt := h.tmt
    wbox := h.wbox.keep c (tn (by simp) hP h.wbox.tag)
    wait := fun i hi => (h.wait i hi).keep c (fun b hb => tn (by simp) hP hb)
    wlen := h.wlen
    prog := h.prog_next c hP0
  }

/-- The states are written. -/
theorem Md.states {w w' : World} {A : Adr} {t : Nat → Tg} {mb : Nat} {F : Fns} {m : MS} (h : Md w A t mb F m) {P : Nat → Prop} (sv : Value) (L : List Nat) (hs : S12.St w' A.sb sv L) (ht : ∀ b, sv.ownBlock = some b → t b = (3, 0)) (c : Chg P w w') (hP : Lo t A.pb [(2, 0), (3, 0)] P) : Md w' { A with sv := sv } t mb F { m with st := L } := by
  have hP0 : ∀ i, P i → (t i).1 ≠ 0 ∨ A.pb ≤ i := fun i hi => by
    rcases hP i hi with this | ⟨-, h2⟩
    · left; revert this; generalize t i = k; intro this; rcases k with ⟨k1, k2⟩; simp at this ⊢ <;> omega
    · exact .inr h2
  exact {
    box := h.box.keep c (tn (by simp) hP h.box.tag)
    st := hs
    stt := ⟨h.stt.1, ht⟩
    grow := h.grow.keep c (fun b hb => tn (by simp) hP hb)
    gor := fun i hi => (h.gor i hi).keep c (tn (by simp) hP (h.gor i hi).tag)
    glob := h.glob.keep c (fun b hb => tn (by simp) hP hb)
    slr := h.slr.keep c (fun b hb => tn (by simp) hP hb)
    slot := fun i hi => (h.slot i hi).keep c (fun b hb => tn (by simp) hP hb)
    tm := h.tm.chg c (tn (by simp) hP h.tmt.1) (fun g hg => tn (by simp) hP (h.tmt.2 g hg))
    tmt := h.tmt
    wbox := h.wbox.keep c (tn (by simp) hP h.wbox.tag)
    wait := fun i hi => (h.wait i hi).keep c (fun b hb => tn (by simp) hP hb)
    wlen := h.wlen
    prog := h.prog_next c hP0
  }

/-- The globals are written. -/
theorem Md.globs {w w' : World} {A : Adr} {t : Nat → Tg} {mb : Nat} {F : Fns} {m : MS} (h : Md w A t mb F m) {P : Nat → Prop} (l : List Nat) (hg : w'.ownsRow 0 3 1 A.Gv l.length (S12.ints l)) (c : Chg P w w') (hP : Lo t A.pb [(5, 0)] P) : Md w' A t mb F { m with globals := l } := by
  have hP0 : ∀ i, P i → (t i).1 ≠ 0 ∨ A.pb ≤ i := fun i hi => by
    rcases hP i hi with this | ⟨-, h2⟩
    · left; revert this; generalize t i = k; intro this; rcases k with ⟨k1, k2⟩; simp at this ⊢ <;> omega
    · exact .inr h2
  exact {
    box := h.box.keep c (tn (by simp) hP h.box.tag)
    st := h.st.chg c (fun i hi => by rcases hi with rfl | hi; exact tn (by simp) hP h.stt.1; exact tn (by simp) hP (h.stt.2 i hi))
    stt := h.stt
    grow := h.grow.keep c (fun b hb => tn (by simp) hP hb)
    gor := fun i hi => (h.gor i hi).keep c (tn (by simp) hP (h.gor i hi).tag)
    glob := ⟨hg, h.glob.tag⟩
    slr := h.slr.keep c (fun b hb => tn (by simp) hP hb)
    slot := fun i hi => (h.slot i hi).keep c (fun b hb => tn (by simp) hP hb)
    tm := h.tm.chg c (tn (by simp) hP h.tmt.1) (fun g hg => tn (by simp) hP (h.tmt.2 g hg))
    tmt := h.tmt
    wbox := h.wbox.keep c (tn (by simp) hP h.wbox.tag)
    wait := fun i hi => (h.wait i hi).keep c (fun b hb => tn (by simp) hP hb)
    wlen := h.wlen
    prog := h.prog_next c hP0
  }

/-- An object's slots are written. -/
theorem Md.oput {w w' : World} {A : Adr} {t : Nat → Tg} {mb : Nat} {F : Fns} {m : MS} (h : Md w A t mb F m) {P : Nat → Prop} (j : Nat) (l : List Nat) (ho : w'.ownsRow 0 3 1 (A.ov j) l.length (S12.ints l)) (c : Chg P w w') (hP : Lo t A.pb [(11, j)] P) : Md w' A t mb F { m with slots := m.slots.set j l } := by
  have hP0 : ∀ i, P i → (t i).1 ≠ 0 ∨ A.pb ≤ i := fun i hi => by
    rcases hP i hi with this | ⟨-, h2⟩
    · left; revert this; generalize t i = k; intro this; rcases k with ⟨k1, k2⟩; simp at this ⊢ <;> omega
    · exact .inr h2
  exact {
    box := h.box.keep c (tn (by simp) hP h.box.tag)
    st := h.st.chg c (fun i hi => by rcases hi with rfl | hi; exact tn (by simp) hP h.stt.1; exact tn (by simp) hP (h.stt.2 i hi))
    stt := h.stt
    grow := h.grow.keep c (fun b hb => tn (by simp) hP hb)
    gor := fun i hi => (h.gor i hi).keep c (tn (by simp) hP (h.gor i hi).tag)
    glob := h.glob.keep c (fun b hb => tn (by simp) hP hb)
    slr := by
      have e : (m.slots.set j l).length = m.slots.length := by simp
      show PRow w' t A.lv _ (m.slots.set j l).length ((List.range (m.slots.set j l).length).map _) _
      rw [e]
      exact h.slr.keep c (fun b hb => tn (by simp) hP hb)
    slot := fun i hi => by
      have hi : i < m.slots.length := by simpa using hi
      by_cases e : j = i
      · subst e
        have e2 : MS.obj { m with slots := m.slots.set j l } j = l := by simp [MS.obj, hi]
        rw [e2]; exact ⟨ho, (h.slot j hi).tag⟩
      · have e2 : MS.obj { m with slots := m.slots.set j l } i = m.obj i := by simp [MS.obj, e]
        rw [e2]; exact (h.slot i hi).keep c (fun b hb => tn (by simp; omega) hP hb)
    tm := h.tm.chg c (tn (by simp) hP h.tmt.1) (fun g hg => tn (by simp) hP (h.tmt.2 g hg))
    tmt := h.tmt
    wbox := h.wbox.keep c (tn (by simp) hP h.wbox.tag)
    wait := fun i hi => (h.wait i hi).keep c (fun b hb => tn (by simp) hP hb)
    wlen := h.wlen
    prog := h.prog_next c hP0
  }

/-- An object more. -/
theorem Md.onew {w w' : World} {A : Adr} {t : Nat → Tg} {mb : Nat} {F : Fns} {m : MS} (h : Md w A t mb F m) {P : Nat → Prop} (lv o : Value) (l : List Nat) (hb : Box w' mb (mcells { A with lv := lv } m.clock) 70) (hr : PRow w' t lv 37 (m.slots.length + 1) (((List.range m.slots.length).map A.ov) ++ [o]) (6, 0)) (ho : PRow w' t o 3 l.length (S12.ints l) (11, m.slots.length)) (c : Chg P w w') (hP : Lo t A.pb [(1, 0), (6, 0)] P) : Md w' { A with lv := lv, ov := fun i => if i = m.slots.length then o else A.ov i } t mb F { m with slots := m.slots ++ [l] } := by
  have hP0 : ∀ i, P i → (t i).1 ≠ 0 ∨ A.pb ≤ i := fun i hi => by
    rcases hP i hi with this | ⟨-, h2⟩
    · left; revert this; generalize t i = k; intro this; rcases k with ⟨k1, k2⟩; simp at this ⊢ <;> omega
    · exact .inr h2
  exact {
    box := ⟨hb, h.box.tag⟩
    st := h.st.chg c (fun i hi => by rcases hi with rfl | hi; exact tn (by simp) hP h.stt.1; exact tn (by simp) hP (h.stt.2 i hi))
    stt := h.stt
    grow := h.grow.keep c (fun b hb => tn (by simp) hP hb)
    gor := fun i hi => (h.gor i hi).keep c (tn (by simp) hP (h.gor i hi).tag)
    glob := h.glob.keep c (fun b hb => tn (by simp) hP hb)
    slr := by
      have e : (m.slots ++ [l]).length = m.slots.length + 1 := by simp
      show PRow w' t lv _ (m.slots ++ [l]).length ((List.range (m.slots ++ [l]).length).map _) _
      rw [e, List.range_succ, List.map_append]
      have e2 : (List.range m.slots.length).map (fun i => if i = m.slots.length then o else A.ov i) = (List.range m.slots.length).map A.ov := List.map_congr_left (fun i hi => by have := List.mem_range.1 hi; simp [show i ≠ m.slots.length by omega])
      rw [e2]; simpa using hr
    slot := fun i hi => by
      have hi : i < m.slots.length + 1 := by simpa using hi
      by_cases e : i = m.slots.length
      · subst e
        have e2 : MS.obj { m with slots := m.slots ++ [l] } m.slots.length = l := by simp [MS.obj]
        rw [e2]; simpa using ho
      · have e2 : MS.obj { m with slots := m.slots ++ [l] } i = m.obj i := by simp [MS.obj, List.getElem?_append, show i < m.slots.length by omega]
        rw [e2]
        simp only [if_neg e]
        exact (h.slot i (by omega)).keep c (fun b hb => tn (by simp) hP hb)
    tm := h.tm.chg c (tn (by simp) hP h.tmt.1) (fun g hg => tn (by simp) hP (h.tmt.2 g hg))
    tmt := h.tmt
    wbox := h.wbox.keep c (tn (by simp) hP h.wbox.tag)
    wait := fun i hi => (h.wait i hi).keep c (fun b hb => tn (by simp) hP hb)
    wlen := h.wlen
    prog := h.prog_next c hP0
  }

/-- A goroutine more. -/
theorem Md.gnew {w w' : World} {A : Adr} {t : Nat → Tg} {mb : Nat} {F : Fns} {m : MS} (h : Md w A t mb F m) {P : Nat → Prop} (gv : Value) (b : Nat) (x : GS) (hb : Box w' mb (mcells { A with gv := gv } m.clock) 70) (hr : PRow w' t gv 78 (m.gs.length + 1) (ptrs A.gb m.gs.length ++ [.pointer (some ⟨b, 0, none⟩)]) (4, 0)) (hg : PBox w' t b (gcells x) 81 (10, m.gs.length)) (c : Chg P w w') (hP : Lo t A.pb [(1, 0), (4, 0)] P) : Md w' { A with gv := gv, gb := fun i => if i = m.gs.length then b else A.gb i } t mb F { m with gs := m.gs ++ [x] } := by
  have hP0 : ∀ i, P i → (t i).1 ≠ 0 ∨ A.pb ≤ i := fun i hi => by
    rcases hP i hi with this | ⟨-, h2⟩
    · left; revert this; generalize t i = k; intro this; rcases k with ⟨k1, k2⟩; simp at this ⊢ <;> omega
    · exact .inr h2
  exact {
    box := ⟨hb, h.box.tag⟩
    st := h.st.chg c (fun i hi => by rcases hi with rfl | hi; exact tn (by simp) hP h.stt.1; exact tn (by simp) hP (h.stt.2 i hi))
    stt := h.stt
    grow := by
      have e : (m.gs ++ [x]).length = m.gs.length + 1 := by simp
      show PRow w' t gv _ (m.gs ++ [x]).length (ptrs _ (m.gs ++ [x]).length) _
      rw [e]
      have e2 : ptrs (fun i => if i = m.gs.length then b else A.gb i) (m.gs.length + 1) = ptrs A.gb m.gs.length ++ [.pointer (some ⟨b, 0, none⟩)] := by
        unfold ptrs
        rw [List.range_succ, List.map_append]
        congr 1
        · exact List.map_congr_left (fun i hi => by have := List.mem_range.1 hi; simp [show i ≠ m.gs.length by omega])
        · simp
      rw [e2]; exact hr
    gor := fun i hi => by
      have hi : i < m.gs.length + 1 := by simpa using hi
      by_cases e : i = m.gs.length
      · subst e
        have e2 : MS.at { m with gs := m.gs ++ [x] } m.gs.length = x := by simp [MS.at]
        rw [e2]; simpa using hg
      · have e2 : MS.at { m with gs := m.gs ++ [x] } i = m.at i := by simp [MS.at, List.getElem?_append, show i < m.gs.length by omega]
        rw [e2]
        simp only [if_neg e]
        exact (h.gor i (by omega)).keep c (tn (by simp) hP (h.gor i (by omega)).tag)
    glob := h.glob.keep c (fun b hb => tn (by simp) hP hb)
    slr := h.slr.keep c (fun b hb => tn (by simp) hP hb)
    slot := fun i hi => (h.slot i hi).keep c (fun b hb => tn (by simp) hP hb)
    tm := h.tm.chg c (tn (by simp) hP h.tmt.1) (fun g hg => tn (by simp) hP (h.tmt.2 g hg))
    tmt := h.tmt
    wbox := h.wbox.keep c (tn (by simp) hP h.wbox.tag)
    wait := fun i hi => (h.wait i hi).keep c (fun b hb => tn (by simp) hP hb)
    wlen := h.wlen
    prog := h.prog_next c hP0
  }

/-- The sleepers are written. -/
theorem Md.timers {w w' : World} {A : Adr} {t : Nat → Tg} {mb : Nat} {F : Fns} {m : MS} (h : Md w A t mb F m) {P : Nat → Prop} (tr : Option Nat) (k : Nat) (S : List T13.T3) (hs : T13.TS w' A.tbase A.tb tr k S) (ht : ∀ b, tr = some b → t b = (8, 0)) (c : Chg P w w') (hP : Lo t A.pb [(7, 0), (8, 0)] P) : Md w' { A with tr := tr } t mb F { m with sleep := S, k := k } := by
  have hP0 : ∀ i, P i → (t i).1 ≠ 0 ∨ A.pb ≤ i := fun i hi => by
    rcases hP i hi with this | ⟨-, h2⟩
    · left; revert this; generalize t i = k; intro this; rcases k with ⟨k1, k2⟩; simp at this ⊢ <;> omega
    · exact .inr h2
  exact {
    box := h.box.keep c (tn (by simp) hP h.box.tag)
    st := h.st.chg c (fun i hi => by rcases hi with rfl | hi; exact tn (by simp) hP h.stt.1; exact tn (by simp) hP (h.stt.2 i hi))
    stt := h.stt
    grow := h.grow.keep c (fun b hb => tn (by simp) hP hb)
    gor := fun i hi => (h.gor i hi).keep c (tn (by simp) hP (h.gor i hi).tag)
    glob := h.glob.keep c (fun b hb => tn (by simp) hP hb)
    slr := h.slr.keep c (fun b hb => tn (by simp) hP hb)
    slot := fun i hi => (h.slot i hi).keep c (fun b hb => tn (by simp) hP hb)
    tm := hs
    tmt := ⟨h.tmt.1, ht⟩
    wbox := h.wbox.keep c (tn (by simp) hP h.wbox.tag)
    wait := fun i hi => (h.wait i hi).keep c (fun b hb => tn (by simp) hP hb)
    wlen := h.wlen
    prog := h.prog_next c hP0
  }

/-- Who waits at a place is written. -/
theorem Md.wput {w w' : World} {A : Adr} {t : Nat → Tg} {mb : Nat} {F : Fns} {m : MS} (h : Md w A t mb F m) {P : Nat → Prop} (j : Nat) (v : Value) (l : List Nat) (hj : j < 32) (hb : Box w' A.wb ((List.range 32).map (fun i => if i = j then v else A.wv i)).toArray 107) (hr : PRow w' t v 3 l.length (S12.ints l) (12, j)) (c : Chg P w w') (hP : Lo t A.pb [(9, 0), (12, j)] P) : Md w' { A with wv := fun i => if i = j then v else A.wv i } t mb F { m with wait := m.wait.set j l } := by
  have hP0 : ∀ i, P i → (t i).1 ≠ 0 ∨ A.pb ≤ i := fun i hi => by
    rcases hP i hi with this | ⟨-, h2⟩
    · left; revert this; generalize t i = k; intro this; rcases k with ⟨k1, k2⟩; simp at this ⊢ <;> omega
    · exact .inr h2
  exact {
    box := h.box.keep c (tn (by simp) hP h.box.tag)
    st := h.st.chg c (fun i hi => by rcases hi with rfl | hi; exact tn (by simp) hP h.stt.1; exact tn (by simp) hP (h.stt.2 i hi))
    stt := h.stt
    grow := h.grow.keep c (fun b hb => tn (by simp) hP hb)
    gor := fun i hi => (h.gor i hi).keep c (tn (by simp) hP (h.gor i hi).tag)
    glob := h.glob.keep c (fun b hb => tn (by simp) hP hb)
    slr := h.slr.keep c (fun b hb => tn (by simp) hP hb)
    slot := fun i hi => (h.slot i hi).keep c (fun b hb => tn (by simp) hP hb)
    tm := h.tm.chg c (tn (by simp) hP h.tmt.1) (fun g hg => tn (by simp) hP (h.tmt.2 g hg))
    tmt := h.tmt
    wbox := ⟨hb, h.wbox.tag⟩
    wait := fun i hi => by
      by_cases e : i = j
      · subst e
        have e2 : MS.wat { m with wait := m.wait.set i l } i = l := by simp [MS.wat, h.wlen, hi]
        rw [e2]; simpa using hr
      · have e2 : MS.wat { m with wait := m.wait.set j l } i = m.wat i := by simp [MS.wat, show ¬ j = i from fun h => e h.symm]
        rw [e2]
        simp only [if_neg e]
        exact (h.wait i hi).keep c (fun b hb => tn (by simp; omega) hP hb)
    wlen := by simpa using h.wlen
    prog := h.prog_next c hP0
  }

/-- The tags of new blocks may be chosen. -/
theorem Md.retag {w : World} {A : Adr} {t t' : Nat → Tg} {mb : Nat} {F : Fns} {m : MS} (h : Md w A t mb F m) (n : New w t) (hx : ∀ i, i < w.heap.size → t' i = t i) : Md w A t' mb F m := by
  have k : ∀ {b : Nat} {τ : Tg}, τ.1 ≠ 0 → t b = τ → t' b = τ := fun {b τ} h0 hb => by
    rcases Nat.lt_or_ge b w.heap.size with hlt | hge
    · exact (hx b hlt).trans hb
    · have := n b hge; rw [hb] at this; exact absurd this h0
  exact {
    box := h.box.retag hx
    st := h.st
    stt := ⟨k (by simp) h.stt.1, fun b hb => k (by simp) (h.stt.2 b hb)⟩
    grow := h.grow.retag hx
    gor := fun i hi => (h.gor i hi).retag hx
    glob := h.glob.retag hx
    slr := h.slr.retag hx
    slot := fun i hi => (h.slot i hi).retag hx
    tm := h.tm
    tmt := ⟨k (by simp) h.tmt.1, fun b hb => k (by simp) (h.tmt.2 b hb)⟩
    wbox := h.wbox.retag hx
    wait := fun i hi => (h.wait i hi).retag hx
    wlen := h.wlen
    prog := fun W hW => h.prog W ⟨hW.os, hW.tape, hW.output, hW.size, fun i hi hf => hW.block i hi (by rw [hx i hi]; exact hf)⟩
  }
/-- New blocks' tags: the row v's is k. -/
def tagv (w : World) (t : Nat → Tg) (v : Option Nat) (k : Tg) (i : Nat) : Tg := if i < w.heap.size then t i else if v = some i then k else (0, 0)
theorem tagv_old (w : World) (t : Nat → Tg) (v : Option Nat) (k : Tg) : ∀ i, i < w.heap.size → tagv w t v k i = t i := fun i hi => if_pos hi
theorem tagv_new {w w' : World} {t : Nat → Tg} {v : Option Nat} {k : Tg} (hs : w.heap.size ≤ w'.heap.size) (hv : ∀ b, v = some b → b < w'.heap.size) : New w' (tagv w t v k) := fun i hi => by
  unfold tagv
  rw [if_neg (by omega), if_neg]
  intro e
  have := hv i e
  omega
theorem tagv_at {w : World} {t : Nat → Tg} {v : Option Nat} {k : Tg} {b : Nat} (hb : v = some b) (h : t b = k ∨ w.heap.size ≤ b) : tagv w t v k b = k := by
  unfold tagv
  by_cases e : b < w.heap.size
  · rw [if_pos e]
    rcases h with h | h
    · exact h
    · omega
  · rw [if_neg e, if_pos hb]

end Go.Proofs.YtmlobpapjfkbmaaGreat

/- A model's instructions: what each leaves. -/
namespace Go.Proofs.YtmlobpapjfkbmaaGreat
open Go.RowKit
set_option linter.unusedVariables false
set_option maxRecDepth 20000

/-- What is told, in its block. -/
def ccells (g f pc op v : Int) (bad : Bool) : Array Value := #[.int .i64 g, .int .i64 f, .int .i64 pc, .int .i64 op, .int .i64 v, .bool bad]
structure CmI where
  g : Int
  f : Int
  pc : Int
  op : Int
abbrev CmI.cells (c : CmI) (v : Int) (bad : Bool) : Array Value := ccells c.g c.f c.pc c.op v bad

/-- A world in which the model is m', and the value told v. -/
def EffT (w : World) (A : Adr) (t : Nat → Tg) (mb : Nat) (F : Fns) (cb : Nat) (cc : CmI) (m' : MS) (v : Int) (w' : World) : Prop :=
  ∃ A' t', Md w' A' t' mb F m' ∧ New w' t' ∧ (∀ i, i < w.heap.size → t' i = t i) ∧ A'.pb = A.pb ∧ Box w' cb (cc.cells v false) 50 ∧ Chg (fun i => (t i).1 ≠ 0 ∨ i = cb) w w'
def faultV : Value := .iface 83 (.agg #[])
def EffD (w : World) (A : Adr) (t : Nat → Tg) (mb : Nat) (F : Fns) (cb : Nat) (cc : CmI) (r : MS × Int × Option Nat) (e : Ending) (w' : World) : Prop :=
  match r.2.2 with
  | some to => e = .returned (.int .i64 (to : Nat)) ∧ EffT w A t mb F cb cc r.1 r.2.1 w'
  | none => e = .panicked [{ v := faultV, recovered := false }] ∧ ∃ v, EffT w A t mb F cb cc r.1 v w'

/-- The call's own blocks: the one of what is told. -/
structure Cb (w : World) (A : Adr) (t : Nat → Tg) (cb : Nat) (cc : CmI) (v : Int) : Prop where
  box : Box w cb (cc.cells v false) 50
  tag : (t cb).1 = 0
  pb : A.pb ≤ cb

theorem New.le {w w' : World} {t : Nat → Tg} (n : New w t) (h : w.heap.size ≤ w'.heap.size) : New w' t := fun i hi => n i (Nat.le_trans h hi)

theorem eff_ex {w w' : World} {A : Adr} {t : Nat → Tg} {mb : Nat} {F : Fns} {m : MS} {cb : Nat} {cc : CmI} {v : Int} (h : Md w A t mb F m) (n : New w t) (hc : Cb w A t cb cc v) (k : Ex w w') : EffT w A t mb F cb cc m v w' :=
  ⟨A, t, h.ex (k.chg (fun _ => False)) (fun i hi => hi.elim), n.le k.size, fun _ _ => rfl, rfl, hc.box.ex k, k.chg _⟩
/-- A goroutine and the value written. -/
theorem eff_gv {w w' : World} {A : Adr} {t : Nat → Tg} {mb : Nat} {F : Fns} {m : MS} {cb : Nat} {cc : CmI} {v v' : Int} (h : Md w A t mb F m) (n : New w t) (hc : Cb w A t cb cc v) {g : Nat} (hg : g < m.gs.length) {x : GS}
    (k : Chg (fun i => i = A.gb g ∨ i = cb) w w') (hb : Box w' (A.gb g) (gcells x) 81) (hv : Box w' cb (cc.cells v' false) 50) : EffT w A t mb F cb cc (m.put g x) v' w' := by
  have tg := (h.gor g hg).tag
  refine ⟨A, t, h.gput g x hb k ?_, n.le k.size, fun _ _ => rfl, rfl, hv, k.weak ?_⟩
  · rintro i (rfl | rfl)
    · left; rw [tg]; simp
    · exact .inr ⟨hc.tag, hc.pb⟩
  · rintro i - (rfl | rfl)
    · left; rw [tg]; simp
    · exact .inr rfl
theorem cb_gb {w : World} {A : Adr} {t : Nat → Tg} {mb : Nat} {F : Fns} {m : MS} {cb : Nat} {cc : CmI} {v : Int} (h : Md w A t mb F m) (hc : Cb w A t cb cc v) {g : Nat} (hg : g < m.gs.length) : A.gb g ≠ cb := fun e => by
  have := (h.gor g hg).tag
  have h2 := hc.tag
  rw [← e, this] at h2
  simp at h2
/-- A goroutine is written. -/
theorem eff_g {w w' : World} {A : Adr} {t : Nat → Tg} {mb : Nat} {F : Fns} {m : MS} {cb : Nat} {cc : CmI} {v : Int} (h : Md w A t mb F m) (n : New w t) (hc : Cb w A t cb cc v) {g : Nat} (hg : g < m.gs.length) {x : GS}
    (k : Chg (fun i => i = A.gb g) w w') (hb : Box w' (A.gb g) (gcells x) 81) : EffT w A t mb F cb cc (m.put g x) v w' :=
  eff_gv h n hc hg (k.weak (fun _ _ h => .inl h)) hb (hc.box.chg k (fun e => cb_gb h hc hg e.symm))
/-- The value is written. -/
theorem eff_v {w w' : World} {A : Adr} {t : Nat → Tg} {mb : Nat} {F : Fns} {m : MS} {cb : Nat} {cc : CmI} {v v' : Int} (h : Md w A t mb F m) (n : New w t) (hc : Cb w A t cb cc v)
    (k : Chg (fun i => i = cb) w w') (hv : Box w' cb (cc.cells v' false) 50) : EffT w A t mb F cb cc m v' w' :=
  ⟨A, t, h.ex k (fun i hi => .inr (by subst hi; exact ⟨hc.tag, hc.pb⟩)), n.le k.size, fun _ _ => rfl, rfl, hv, k.weak (fun _ _ h => .inr h)⟩

/-- Cells of a goroutine. -/
theorem gcells_at (x : GS) (a : Nat) (ha : a < x.stack.length) : (gcells x)[3 + a]? = some (.int .i64 (x.val a : Nat)) := by
  rw [show 3 + a = a + 3 by omega]
  simp [gcells, S12.ints, GS.val, ha]
theorem gcells_set (x : GS) (a v : Nat) : (gcells x).setIfInBounds (3 + a) (.int .i64 (v : Nat)) = gcells (x.top a v) := by
  rw [show 3 + a = a + 3 by omega]
  simp [gcells, S12.ints, GS.top, List.map_set]

end Go.Proofs.YtmlobpapjfkbmaaGreat

/- A model's instructions: those of one goroutine alone. -/
namespace Go.Proofs.YtmlobpapjfkbmaaGreat
open Go.RowKit
set_option linter.unusedVariables false
set_option maxRecDepth 20000
set_option linter.unusedSimpArgs false

theorem effD_some {w w' : World} {A : Adr} {t : Nat → Tg} {mb : Nat} {F : Fns} {cb : Nat} {cc : CmI} {r : MS × Int × Option Nat} {m' : MS} {v : Int} {to : Nat} {e : Ending} (hr : r = (m', v, some to)) (h1 : e = .returned (.int .i64 (to : Nat))) (h2 : EffT w A t mb F cb cc m' v w') : EffD w A t mb F cb cc r e w' := by
  subst hr; exact ⟨h1, h2⟩
/-- A place of the stack is written. -/
theorem eff_top {w W w' : World} {A : Adr} {t : Nat → Tg} {mb : Nat} {F : Fns} {m : MS} {cb : Nat} {cc : CmI} {v : Int} (h : Md w A t mb F m) (n : New w t) (hc : Cb w A t cb cc v) {g : Nat} (hg : g < m.gs.length) (a v' : Nat)
    (y : Ex w W) (x : Ex (W.setCell ⟨A.gb g, 3 + a, none⟩ (.int .i64 (v' : Nat))) w') : EffT w A t mb F cb cc (m.put g ((m.at g).top a v')) v w' :=
  eff_g h n hc hg (((y.chg _).trans (Chg.cell (F := fun i => i = A.gb g) W ⟨A.gb g, 3 + a, none⟩ _ rfl) (fun _ _ h => h)).ex x) (gcells_set (m.at g) a v' ▸ (((h.gor g hg).box.ex y).put (3 + a) _).ex x)
theorem gcells_pc (x : GS) (p : Nat) : (gcells x).setIfInBounds 1 (.int .i64 (p : Nat)) = gcells { x with pc := p } := by simp [gcells]
theorem gcells_count (x : GS) (p : Nat) : (gcells x).setIfInBounds 2 (.int .i64 (p : Nat)) = gcells { x with count := p } := by simp [gcells]
theorem eff_pc {w W w' : World} {A : Adr} {t : Nat → Tg} {mb : Nat} {F : Fns} {m : MS} {cb : Nat} {cc : CmI} {v : Int} (h : Md w A t mb F m) (n : New w t) (hc : Cb w A t cb cc v) {g : Nat} (hg : g < m.gs.length) (v' : Nat)
    (y : Ex w W) (x : Ex (W.setCell ⟨A.gb g, 1, none⟩ (.int .i64 (v' : Nat))) w') : EffT w A t mb F cb cc (m.put g { m.at g with pc := v' }) v w' :=
  eff_g h n hc hg (((y.chg _).trans (Chg.cell (F := fun i => i = A.gb g) W ⟨A.gb g, 1, none⟩ _ rfl) (fun _ _ h => h)).ex x) (gcells_pc (m.at g) v' ▸ (((h.gor g hg).box.ex y).put 1 _).ex x)
theorem eff_count {w W w' : World} {A : Adr} {t : Nat → Tg} {mb : Nat} {F : Fns} {m : MS} {cb : Nat} {cc : CmI} {v : Int} (h : Md w A t mb F m) (n : New w t) (hc : Cb w A t cb cc v) {g : Nat} (hg : g < m.gs.length) (v' : Nat)
    (y : Ex w W) (x : Ex (W.setCell ⟨A.gb g, 2, none⟩ (.int .i64 (v' : Nat))) w') : EffT w A t mb F cb cc (m.put g { m.at g with count := v' }) v w' :=
  eff_g h n hc hg (((y.chg _).trans (Chg.cell (F := fun i => i = A.gb g) W ⟨A.gb g, 2, none⟩ _ rfl) (fun _ _ h => h)).ex x) (gcells_count (m.at g) v' ▸ (((h.gor g hg).box.ex y).put 2 _).ex x)
theorem eff_val {w W w' : World} {A : Adr} {t : Nat → Tg} {mb : Nat} {F : Fns} {m : MS} {cb : Nat} {cc : CmI} {v : Int} (h : Md w A t mb F m) (n : New w t) (hc : Cb w A t cb cc v) (v' : Int)
    (y : Ex w W) (x : Ex (W.setCell ⟨cb, 4, none⟩ (.int .i64 v')) w') : EffT w A t mb F cb cc m v' w' :=
  eff_v h n hc (((y.chg _).trans (Chg.cell (F := fun i => i = cb) W ⟨cb, 4, none⟩ _ rfl) (fun _ _ h => h)).ex x) (((hc.box.ex y).put 4 _).ex x)
theorem eff_globs {w W w' : World} {A : Adr} {t : Nat → Tg} {mb : Nat} {F : Fns} {m : MS} {cb : Nat} {cc : CmI} {v : Int} (h : Md w A t mb F m) (n : New w t) (hc : Cb w A t cb cc v) {Gb cap : Nat} (hv : A.Gv = .slice (some ⟨Gb, 0, none⟩) m.globals.length cap) (a v' : Nat)
    (y : Ex w W) (x : Ex (W.setCell ⟨Gb, a, none⟩ (.int .i64 (v' : Nat))) w') : EffT w A t mb F cb cc { m with globals := m.globals.set a v' } v w' := by
  have tg : t Gb = (5, 0) := h.glob.tag Gb (by rw [hv]; rfl)
  have k : Chg (fun i => i = Gb) w w' := ((y.chg _).trans (Chg.cell (F := fun i => i = Gb) W ⟨Gb, a, none⟩ _ rfl) (fun _ _ h => h)).ex x
  have hr := row_chg (F := fun _ => False) h.glob.row (y.chg _) (fun _ _ h => h)
  rw [hv] at hr
  have r2 := row_chg (F := fun _ => False) (hr.stored a (.int .i64 (v' : Nat))).1 (x.chg _) (fun _ _ h => h)
  refine ⟨A, t, h.globs (m.globals.set a v') ?_ k ?_, n.le k.size, fun _ _ => rfl, rfl, hc.box.chg k ?_, k.weak ?_⟩
  · rw [hv, List.length_set, show S12.ints (m.globals.set a v') = (S12.ints m.globals).set a (.int .i64 (v' : Nat)) by simp [S12.ints, List.map_set]]
    exact r2
  · rintro i rfl; left; rw [tg]; simp
  · intro e; have := hc.tag; rw [e, tg] at this; simp at this
  · rintro i - rfl; left; rw [tg]; simp
/-- A row of numbers, read. -/
theorem row_ints {w : World} {t : Nat → Tg} {v : Value} {l : List Nat} {k : Tg} (h : PRow w t v 3 l.length (S12.ints l) k) (j : Nat) (hj : j < l.length) : ∃ b cap, v = .slice (some ⟨b, 0, none⟩) l.length cap ∧ b < w.heap.size ∧ l.length ≤ cap ∧ t b = k ∧
    ∀ i, i < l.length → w.cell? ⟨b, i, none⟩ = some (.int .i64 (l.getD i 0 : Nat)) ∧ w.frozen? ⟨b, i, none⟩ = false := by
  rcases row_shape h.row with ⟨h1, h2, -⟩ | ⟨b, cap, rfl, -, h3, h4, -⟩
  · omega
  · refine ⟨b, cap, rfl, h3, h4, h.tag b rfl, fun i hi => ⟨?_, h.row.frozenAt i⟩⟩
    rw [h.row.cellAt i (by omega)]
    simp [S12.ints, hi]

set_option maxHeartbeats 3200000 in
theorem exit_m {w : World} {A : Adr} {t : Nat → Tg} {mb : Nat} {F : Fns} {m : MS} (h : Md w A t mb F m) (n : New w t) {cb : Nat} {cc : CmI} (hc : Cb w A t cb cc 0) {g : Nat} (hg : g < m.gs.length) (hl : (m.at g).stack.length = 16) (op : Int) (a b c : Nat)  :
    Calls Tryz.prog 54 #[.pointer (some ⟨mb, 0, none⟩), .int .i64 (g : Nat), .pointer (some ⟨A.gb g, 0, none⟩), .agg #[.int .i64 op, .int .i64 (a : Nat), .int .i64 (b : Nat), .int .i64 (c : Nat)], .pointer (some ⟨cb, 4, none⟩)] w
      (EffD w A t mb F cb cc (effM m g 0 a b c)) := by
  have H := Lib.hid h
  have N := Lib.hid n
  have HC := Lib.hid hc
  have HG := Lib.hid hg
  have hB := (h.gor g hg).box
  have HB := Lib.hid hB
  have m0 := fun k => h.box.box.cell k
  have v1 : w.cell? ⟨cb, 4, none⟩ = some (.int .i64 0) := hc.box.cell 4
  have v2 := hc.box.soft 4
  have hne := cb_gb h hc hg
  have hlt := HB.out.lt
  have clt := hc.box.lt
  have mlt := h.box.box.lt
  obtain ⟨gb, hgb⟩ : ∃ gb, A.gb g = gb := ⟨_, rfl⟩
  rw [hgb] at hB HB hne hlt ⊢
  have HGB := Lib.hid hgb
  clear h n hc hg hB hl hgb m0
  go_enter Tryz.func54, Tryz.ntmps54
  go_wp2_with fail
  go_ret
  exact effD_some rfl rfl (eff_ex H.out N.out HC.out (Ex.made _ _))

set_option maxHeartbeats 3200000 in
theorem yield_m {w : World} {A : Adr} {t : Nat → Tg} {mb : Nat} {F : Fns} {m : MS} (h : Md w A t mb F m) (n : New w t) {cb : Nat} {cc : CmI} (hc : Cb w A t cb cc 0) {g : Nat} (hg : g < m.gs.length) (hl : (m.at g).stack.length = 16) (op : Int) (a b c : Nat)  :
    Calls Tryz.prog 63 #[.pointer (some ⟨mb, 0, none⟩), .int .i64 (g : Nat), .pointer (some ⟨A.gb g, 0, none⟩), .agg #[.int .i64 op, .int .i64 (a : Nat), .int .i64 (b : Nat), .int .i64 (c : Nat)], .pointer (some ⟨cb, 4, none⟩)] w
      (EffD w A t mb F cb cc (effM m g 9 a b c)) := by
  have H := Lib.hid h
  have N := Lib.hid n
  have HC := Lib.hid hc
  have HG := Lib.hid hg
  have hB := (h.gor g hg).box
  have HB := Lib.hid hB
  have m0 := fun k => h.box.box.cell k
  have v1 : w.cell? ⟨cb, 4, none⟩ = some (.int .i64 0) := hc.box.cell 4
  have v2 := hc.box.soft 4
  have hne := cb_gb h hc hg
  have hlt := HB.out.lt
  have clt := hc.box.lt
  have mlt := h.box.box.lt
  obtain ⟨gb, hgb⟩ : ∃ gb, A.gb g = gb := ⟨_, rfl⟩
  rw [hgb] at hB HB hne hlt ⊢
  have HGB := Lib.hid hgb
  clear h n hc hg hB hl hgb m0
  go_enter Tryz.func63, Tryz.ntmps63
  go_wp2_with fail
  go_ret
  exact effD_some rfl rfl (eff_ex H.out N.out HC.out (Ex.made _ _))

set_option maxHeartbeats 3200000 in
theorem move_m {w : World} {A : Adr} {t : Nat → Tg} {mb : Nat} {F : Fns} {m : MS} (h : Md w A t mb F m) (n : New w t) {cb : Nat} {cc : CmI} (hc : Cb w A t cb cc 0) {g : Nat} (hg : g < m.gs.length) (hl : (m.at g).stack.length = 16) (op : Int) (a b c : Nat) (ha : a < 16) (hb : b < 16) :
    Calls Tryz.prog 58 #[.pointer (some ⟨mb, 0, none⟩), .int .i64 (g : Nat), .pointer (some ⟨A.gb g, 0, none⟩), .agg #[.int .i64 op, .int .i64 (a : Nat), .int .i64 (b : Nat), .int .i64 (c : Nat)], .pointer (some ⟨cb, 4, none⟩)] w
      (EffD w A t mb F cb cc (effM m g 4 a b c)) := by
  have H := Lib.hid h
  have N := Lib.hid n
  have HC := Lib.hid hc
  have HG := Lib.hid hg
  have hB := (h.gor g hg).box
  have HB := Lib.hid hB
  have m0 := fun k => h.box.box.cell k
  have v1 : w.cell? ⟨cb, 4, none⟩ = some (.int .i64 0) := hc.box.cell 4
  have v2 := hc.box.soft 4
  have hne := cb_gb h hc hg
  have hlt := HB.out.lt
  have clt := hc.box.lt
  have mlt := h.box.box.lt
  have xa := gcells_at (m.at g) a (by omega)
  rw [← hB.cell] at xa
  have fa := hB.soft (3 + a)
  obtain ⟨va, hva⟩ : ∃ v, (m.at g).val a = v := ⟨_, rfl⟩
  rw [hva] at xa
  have HVa := Lib.hid hva
  have ia : (a : Int) < 16 := by omega
  have xb := gcells_at (m.at g) b (by omega)
  rw [← hB.cell] at xb
  have fb := hB.soft (3 + b)
  obtain ⟨vb, hvb⟩ : ∃ v, (m.at g).val b = v := ⟨_, rfl⟩
  rw [hvb] at xb
  have HVb := Lib.hid hvb
  have ib : (b : Int) < 16 := by omega
  clear hva hvb
  obtain ⟨gb, hgb⟩ : ∃ gb, A.gb g = gb := ⟨_, rfl⟩
  rw [hgb] at hB HB hne hlt ⊢ xa xb fa fb
  have HGB := Lib.hid hgb
  clear h n hc hg hB hl hgb m0
  go_enter Tryz.func58, Tryz.ntmps58
  go_upto_region 1 with fail
  go_region
  go_wp2_with fail
  go_ret
  rw [← HGB.out]
  refine effD_some rfl rfl ?_
  rw [HVb.out]
  exact eff_top H.out N.out HC.out HG.out a vb (Ex.refl _) ((Ex.made _ _).trans (Ex.drawn _ 1))

set_option maxHeartbeats 3200000 in
theorem zero_m {w : World} {A : Adr} {t : Nat → Tg} {mb : Nat} {F : Fns} {m : MS} (h : Md w A t mb F m) (n : New w t) {cb : Nat} {cc : CmI} (hc : Cb w A t cb cc 0) {g : Nat} (hg : g < m.gs.length) (hl : (m.at g).stack.length = 16) (op : Int) (a b c : Nat) (ha : a < 16) :
    Calls Tryz.prog 59 #[.pointer (some ⟨mb, 0, none⟩), .int .i64 (g : Nat), .pointer (some ⟨A.gb g, 0, none⟩), .agg #[.int .i64 op, .int .i64 (a : Nat), .int .i64 (b : Nat), .int .i64 (c : Nat)], .pointer (some ⟨cb, 4, none⟩)] w
      (EffD w A t mb F cb cc (effM m g 5 a b c)) := by
  have H := Lib.hid h
  have N := Lib.hid n
  have HC := Lib.hid hc
  have HG := Lib.hid hg
  have hB := (h.gor g hg).box
  have HB := Lib.hid hB
  have m0 := fun k => h.box.box.cell k
  have v1 : w.cell? ⟨cb, 4, none⟩ = some (.int .i64 0) := hc.box.cell 4
  have v2 := hc.box.soft 4
  have hne := cb_gb h hc hg
  have hlt := HB.out.lt
  have clt := hc.box.lt
  have mlt := h.box.box.lt
  have xa := gcells_at (m.at g) a (by omega)
  rw [← hB.cell] at xa
  have fa := hB.soft (3 + a)
  obtain ⟨va, hva⟩ : ∃ v, (m.at g).val a = v := ⟨_, rfl⟩
  rw [hva] at xa
  have HVa := Lib.hid hva
  have ia : (a : Int) < 16 := by omega
  clear hva
  obtain ⟨gb, hgb⟩ : ∃ gb, A.gb g = gb := ⟨_, rfl⟩
  rw [hgb] at hB HB hne hlt ⊢ xa fa
  have HGB := Lib.hid hgb
  clear h n hc hg hB hl hgb m0
  go_enter Tryz.func59, Tryz.ntmps59
  go_upto_region 1 with fail
  go_region
  go_wp2_with fail
  go_ret
  rw [← HGB.out]
  exact effD_some rfl rfl (eff_top H.out N.out HC.out HG.out a 0 (Ex.refl _) ((Ex.made _ _).trans (Ex.drawn _ 1)))

set_option maxHeartbeats 3200000 in
theorem get_m {w : World} {A : Adr} {t : Nat → Tg} {mb : Nat} {F : Fns} {m : MS} (h : Md w A t mb F m) (n : New w t) {cb : Nat} {cc : CmI} (hc : Cb w A t cb cc 0) {g : Nat} (hg : g < m.gs.length) (hl : (m.at g).stack.length = 16) (op : Int) (a b c : Nat) (ha : a < 16) (hb : b < m.globals.length) (hn : m.globals.length ≤ 32) :
    Calls Tryz.prog 60 #[.pointer (some ⟨mb, 0, none⟩), .int .i64 (g : Nat), .pointer (some ⟨A.gb g, 0, none⟩), .agg #[.int .i64 op, .int .i64 (a : Nat), .int .i64 (b : Nat), .int .i64 (c : Nat)], .pointer (some ⟨cb, 4, none⟩)] w
      (EffD w A t mb F cb cc (effM m g 6 a b c)) := by
  have H := Lib.hid h
  have N := Lib.hid n
  have HC := Lib.hid hc
  have HG := Lib.hid hg
  have hB := (h.gor g hg).box
  have HB := Lib.hid hB
  have m0 := fun k => h.box.box.cell k
  have v1 : w.cell? ⟨cb, 4, none⟩ = some (.int .i64 0) := hc.box.cell 4
  have v2 := hc.box.soft 4
  have hne := cb_gb h hc hg
  have hlt := HB.out.lt
  have clt := hc.box.lt
  have mlt := h.box.box.lt
  have xa := gcells_at (m.at g) a (by omega)
  rw [← hB.cell] at xa
  have fa := hB.soft (3 + a)
  obtain ⟨va, hva⟩ : ∃ v, (m.at g).val a = v := ⟨_, rfl⟩
  rw [hva] at xa
  have HVa := Lib.hid hva
  have ia : (a : Int) < 16 := by omega
  clear hva
  obtain ⟨Gb, cap, hGv, Glt, Gcap, -, Gc⟩ := row_ints h.glob b hb
  have c4 : w.cell? ⟨mb, 4, none⟩ = some (.slice (some ⟨Gb, 0, none⟩) m.globals.length cap) := by rw [← hGv]; exact m0 4
  obtain ⟨vb, hvb⟩ : ∃ v, m.globals.getD b 0 = v := ⟨_, rfl⟩
  have c5 := (Gc b hb).1
  rw [hvb] at c5
  have HVB := Lib.hid hvb
  obtain ⟨gl, hgl⟩ : ∃ gl, m.globals.length = gl := ⟨_, rfl⟩
  rw [hgl] at c4 hb hn Gcap
  have ib : (b : Int) < (gl : Int) := by omega
  clear hvb Gc hGv hgl
  obtain ⟨gb, hgb⟩ : ∃ gb, A.gb g = gb := ⟨_, rfl⟩
  rw [hgb] at hB HB hne hlt ⊢ xa fa
  have HGB := Lib.hid hgb
  clear h n hc hg hB hl hgb m0
  go_enter Tryz.func60, Tryz.ntmps60
  go_upto_region 1 with fail
  go_region
  go_wp2_with fail
  go_ret
  rw [← HGB.out]
  refine effD_some rfl rfl ?_
  rw [HVB.out]
  exact eff_top H.out N.out HC.out HG.out a vb (Ex.refl _) ((Ex.made _ _).trans (Ex.drawn _ 1))

set_option maxHeartbeats 3200000 in
theorem put_m {w : World} {A : Adr} {t : Nat → Tg} {mb : Nat} {F : Fns} {m : MS} (h : Md w A t mb F m) (n : New w t) {cb : Nat} {cc : CmI} (hc : Cb w A t cb cc 0) {g : Nat} (hg : g < m.gs.length) (hl : (m.at g).stack.length = 16) (op : Int) (a b c : Nat) (ha : a < m.globals.length) (hb : b < 16) (hn : m.globals.length ≤ 32) :
    Calls Tryz.prog 61 #[.pointer (some ⟨mb, 0, none⟩), .int .i64 (g : Nat), .pointer (some ⟨A.gb g, 0, none⟩), .agg #[.int .i64 op, .int .i64 (a : Nat), .int .i64 (b : Nat), .int .i64 (c : Nat)], .pointer (some ⟨cb, 4, none⟩)] w
      (EffD w A t mb F cb cc (effM m g 7 a b c)) := by
  have H := Lib.hid h
  have N := Lib.hid n
  have HC := Lib.hid hc
  have HG := Lib.hid hg
  have hB := (h.gor g hg).box
  have HB := Lib.hid hB
  have m0 := fun k => h.box.box.cell k
  have v1 : w.cell? ⟨cb, 4, none⟩ = some (.int .i64 0) := hc.box.cell 4
  have v2 := hc.box.soft 4
  have hne := cb_gb h hc hg
  have hlt := HB.out.lt
  have clt := hc.box.lt
  have mlt := h.box.box.lt
  have xb := gcells_at (m.at g) b (by omega)
  rw [← hB.cell] at xb
  have fb := hB.soft (3 + b)
  obtain ⟨vb, hvb⟩ : ∃ v, (m.at g).val b = v := ⟨_, rfl⟩
  rw [hvb] at xb
  have HVb := Lib.hid hvb
  have ib : (b : Int) < 16 := by omega
  clear hvb
  obtain ⟨Gb, cap, hGv, Glt, Gcap, -, Gc⟩ := row_ints h.glob a ha
  have c4 : w.cell? ⟨mb, 4, none⟩ = some (.slice (some ⟨Gb, 0, none⟩) m.globals.length cap) := by rw [← hGv]; exact m0 4
  have c5 := (Gc a ha).1
  have f5 := (Gc a ha).2
  have HGV := Lib.hid hGv
  obtain ⟨gl, hgl⟩ : ∃ gl, m.globals.length = gl := ⟨_, rfl⟩
  rw [hgl] at c4 ha hn Gcap
  have ia : (a : Int) < (gl : Int) := by omega
  clear Gc hGv hgl
  obtain ⟨gb, hgb⟩ : ∃ gb, A.gb g = gb := ⟨_, rfl⟩
  rw [hgb] at hB HB hne hlt ⊢ xb fb
  have HGB := Lib.hid hgb
  clear h n hc hg hB hl hgb m0
  go_enter Tryz.func61, Tryz.ntmps61
  go_upto_region 1 with fail
  go_region
  go_wp2_with fail
  go_ret
  refine effD_some rfl rfl ?_
  rw [HVb.out]
  exact eff_globs H.out N.out HC.out HGV.out a vb (Ex.refl _) ((Ex.made _ _).trans (Ex.drawn _ 1))

set_option maxHeartbeats 3200000 in
theorem eq_m {w : World} {A : Adr} {t : Nat → Tg} {mb : Nat} {F : Fns} {m : MS} (h : Md w A t mb F m) (n : New w t) {cb : Nat} {cc : CmI} (hc : Cb w A t cb cc 0) {g : Nat} (hg : g < m.gs.length) (hl : (m.at g).stack.length = 16) (op : Int) (a b c : Nat) (ha : a < 16) (hb : b < 16) :
    Calls Tryz.prog 67 #[.pointer (some ⟨mb, 0, none⟩), .int .i64 (g : Nat), .pointer (some ⟨A.gb g, 0, none⟩), .agg #[.int .i64 op, .int .i64 (a : Nat), .int .i64 (b : Nat), .int .i64 (c : Nat)], .pointer (some ⟨cb, 4, none⟩)] w
      (EffD w A t mb F cb cc (effM m g 13 a b c)) := by
  have H := Lib.hid h
  have N := Lib.hid n
  have HC := Lib.hid hc
  have HG := Lib.hid hg
  have hB := (h.gor g hg).box
  have HB := Lib.hid hB
  have m0 := fun k => h.box.box.cell k
  have v1 : w.cell? ⟨cb, 4, none⟩ = some (.int .i64 0) := hc.box.cell 4
  have v2 := hc.box.soft 4
  have hne := cb_gb h hc hg
  have hlt := HB.out.lt
  have clt := hc.box.lt
  have mlt := h.box.box.lt
  have xa := gcells_at (m.at g) a (by omega)
  rw [← hB.cell] at xa
  have fa := hB.soft (3 + a)
  obtain ⟨va, hva⟩ : ∃ v, (m.at g).val a = v := ⟨_, rfl⟩
  rw [hva] at xa
  have HVa := Lib.hid hva
  have ia : (a : Int) < 16 := by omega
  have xb := gcells_at (m.at g) b (by omega)
  rw [← hB.cell] at xb
  have fb := hB.soft (3 + b)
  obtain ⟨vb, hvb⟩ : ∃ v, (m.at g).val b = v := ⟨_, rfl⟩
  rw [hvb] at xb
  have HVb := Lib.hid hvb
  have ib : (b : Int) < 16 := by omega
  clear hva hvb
  obtain ⟨gb, hgb⟩ : ∃ gb, A.gb g = gb := ⟨_, rfl⟩
  rw [hgb] at hB HB hne hlt ⊢ xa xb fa fb
  have HGB := Lib.hid hgb
  clear h n hc hg hB hl hgb m0
  go_enter Tryz.func67, Tryz.ntmps67
  by_cases he : va = vb
  · have hd : ((va : Int) == (vb : Int)) = true := by simp [he]
    have HE : Hid (effM m g 13 a b c = (m, 1, some 1)) := Lib.hid (by simp only [effM]; rw [HVa.out, HVb.out, if_pos he])
    clear he
    go_upto_region 1 with fail
    go_quiet (fail)
    go_wp2_with fail
    go_ret
    exact effD_some HE.out rfl (eff_val H.out N.out HC.out 1 ((Ex.made _ _).trans (Ex.drawn _ _)) (Ex.refl _))
  · have hd : ((va : Int) == (vb : Int)) = false := by simp; omega
    have HE : Hid (effM m g 13 a b c = (m, 0, some 1)) := Lib.hid (by simp only [effM]; rw [HVa.out, HVb.out, if_neg he])
    clear he
    go_upto_region 1 with fail
    go_quiet (fail)
    go_wp2_with fail
    go_ret
    exact effD_some HE.out rfl (eff_ex H.out N.out HC.out ((Ex.made _ _).trans (Ex.drawn _ _)))

set_option maxHeartbeats 3200000 in
theorem jump_m {w : World} {A : Adr} {t : Nat → Tg} {mb : Nat} {F : Fns} {m : MS} (h : Md w A t mb F m) (n : New w t) {cb : Nat} {cc : CmI} (hc : Cb w A t cb cc 0) {g : Nat} (hg : g < m.gs.length) (hl : (m.at g).stack.length = 16) (op : Int) (a b c : Nat)  :
    Calls Tryz.prog 68 #[.pointer (some ⟨mb, 0, none⟩), .int .i64 (g : Nat), .pointer (some ⟨A.gb g, 0, none⟩), .agg #[.int .i64 op, .int .i64 (a : Nat), .int .i64 (b : Nat), .int .i64 (c : Nat)], .pointer (some ⟨cb, 4, none⟩)] w
      (EffD w A t mb F cb cc (effM m g 14 a b c)) := by
  have H := Lib.hid h
  have N := Lib.hid n
  have HC := Lib.hid hc
  have HG := Lib.hid hg
  have hB := (h.gor g hg).box
  have HB := Lib.hid hB
  have m0 := fun k => h.box.box.cell k
  have v1 : w.cell? ⟨cb, 4, none⟩ = some (.int .i64 0) := hc.box.cell 4
  have v2 := hc.box.soft 4
  have hne := cb_gb h hc hg
  have hlt := HB.out.lt
  have clt := hc.box.lt
  have mlt := h.box.box.lt
  have p1 : w.cell? ⟨A.gb g, 1, none⟩ = some (.int .i64 ((m.at g).pc : Nat)) := by rw [hB.cell]; rfl
  have p2 := hB.soft 1
  obtain ⟨gb, hgb⟩ : ∃ gb, A.gb g = gb := ⟨_, rfl⟩
  rw [hgb] at hB HB hne hlt ⊢ p1 p2
  have HGB := Lib.hid hgb
  clear h n hc hg hB hl hgb m0
  go_enter Tryz.func68, Tryz.ntmps68
  go_wp2_with fail
  go_ret
  rw [← HGB.out]
  exact effD_some rfl rfl (eff_pc H.out N.out HC.out HG.out a (Ex.refl _) (Ex.made _ _))

set_option maxHeartbeats 3200000 in
theorem jeq_m {w : World} {A : Adr} {t : Nat → Tg} {mb : Nat} {F : Fns} {m : MS} (h : Md w A t mb F m) (n : New w t) {cb : Nat} {cc : CmI} (hc : Cb w A t cb cc 0) {g : Nat} (hg : g < m.gs.length) (hl : (m.at g).stack.length = 16) (op : Int) (a b c : Nat) (ha : a < 16) (hb : b < 16) :
    Calls Tryz.prog 69 #[.pointer (some ⟨mb, 0, none⟩), .int .i64 (g : Nat), .pointer (some ⟨A.gb g, 0, none⟩), .agg #[.int .i64 op, .int .i64 (a : Nat), .int .i64 (b : Nat), .int .i64 (c : Nat)], .pointer (some ⟨cb, 4, none⟩)] w
      (EffD w A t mb F cb cc (effM m g 15 a b c)) := by
  have H := Lib.hid h
  have N := Lib.hid n
  have HC := Lib.hid hc
  have HG := Lib.hid hg
  have hB := (h.gor g hg).box
  have HB := Lib.hid hB
  have m0 := fun k => h.box.box.cell k
  have v1 : w.cell? ⟨cb, 4, none⟩ = some (.int .i64 0) := hc.box.cell 4
  have v2 := hc.box.soft 4
  have hne := cb_gb h hc hg
  have hlt := HB.out.lt
  have clt := hc.box.lt
  have mlt := h.box.box.lt
  have p1 : w.cell? ⟨A.gb g, 1, none⟩ = some (.int .i64 ((m.at g).pc : Nat)) := by rw [hB.cell]; rfl
  have p2 := hB.soft 1
  have xa := gcells_at (m.at g) a (by omega)
  rw [← hB.cell] at xa
  have fa := hB.soft (3 + a)
  obtain ⟨va, hva⟩ : ∃ v, (m.at g).val a = v := ⟨_, rfl⟩
  rw [hva] at xa
  have HVa := Lib.hid hva
  have ia : (a : Int) < 16 := by omega
  have xb := gcells_at (m.at g) b (by omega)
  rw [← hB.cell] at xb
  have fb := hB.soft (3 + b)
  obtain ⟨vb, hvb⟩ : ∃ v, (m.at g).val b = v := ⟨_, rfl⟩
  rw [hvb] at xb
  have HVb := Lib.hid hvb
  have ib : (b : Int) < 16 := by omega
  clear hva hvb
  obtain ⟨gb, hgb⟩ : ∃ gb, A.gb g = gb := ⟨_, rfl⟩
  rw [hgb] at hB HB hne hlt ⊢ p1 p2 xa xb fa fb
  have HGB := Lib.hid hgb
  clear h n hc hg hB hl hgb m0
  go_enter Tryz.func69, Tryz.ntmps69
  by_cases he : va = vb
  · have hd : ((va : Int) == (vb : Int)) = true := by simp [he]
    have HE : Hid (effM m g 15 a b c = (m.put g { m.at g with pc := c }, 0, some 1)) := Lib.hid (by simp only [effM]; rw [HVa.out, HVb.out, if_pos he])
    clear he
    go_upto_region 1 with fail
    go_quiet (fail)
    go_wp2_with fail
    go_ret
    rw [← HGB.out]
    exact effD_some HE.out rfl (eff_pc H.out N.out HC.out HG.out c ((Ex.made _ _).trans (Ex.drawn _ _)) (Ex.refl _))
  · have hd : ((va : Int) == (vb : Int)) = false := by simp; omega
    have HE : Hid (effM m g 15 a b c = (m, 0, some 1)) := Lib.hid (by simp only [effM]; rw [HVa.out, HVb.out, if_neg he])
    clear he
    go_upto_region 1 with fail
    go_quiet (fail)
    go_wp2_with fail
    go_ret
    exact effD_some HE.out rfl (eff_ex H.out N.out HC.out ((Ex.made _ _).trans (Ex.drawn _ _)))

set_option maxHeartbeats 3200000 in
theorem set_m {w : World} {A : Adr} {t : Nat → Tg} {mb : Nat} {F : Fns} {m : MS} (h : Md w A t mb F m) (n : New w t) {cb : Nat} {cc : CmI} (hc : Cb w A t cb cc 0) {g : Nat} (hg : g < m.gs.length) (hl : (m.at g).stack.length = 16) (op : Int) (a b c : Nat) (ha : a < 256) (hb : b < 256) :
    Calls Tryz.prog 70 #[.pointer (some ⟨mb, 0, none⟩), .int .i64 (g : Nat), .pointer (some ⟨A.gb g, 0, none⟩), .agg #[.int .i64 op, .int .i64 (a : Nat), .int .i64 (b : Nat), .int .i64 (c : Nat)], .pointer (some ⟨cb, 4, none⟩)] w
      (EffD w A t mb F cb cc (effM m g 16 a b c)) := by
  have H := Lib.hid h
  have N := Lib.hid n
  have HC := Lib.hid hc
  have HG := Lib.hid hg
  have hB := (h.gor g hg).box
  have HB := Lib.hid hB
  have m0 := fun k => h.box.box.cell k
  have v1 : w.cell? ⟨cb, 4, none⟩ = some (.int .i64 0) := hc.box.cell 4
  have v2 := hc.box.soft 4
  have hne := cb_gb h hc hg
  have hlt := HB.out.lt
  have clt := hc.box.lt
  have mlt := h.box.box.lt
  have q1 : w.cell? ⟨A.gb g, 2, none⟩ = some (.int .i64 ((m.at g).count : Nat)) := by rw [hB.cell]; rfl
  have q2 := hB.soft 2
  have e1 : IntKind.i64.wrap (256 * (a : Int)) = 256 * (a : Int) := by rw [IntKind.wrap_i64]; omega
  have e2 : IntKind.i64.wrap (256 * (a : Int) + (b : Int)) = ((256 * a + b : Nat) : Int) := by rw [IntKind.wrap_i64]; omega
  obtain ⟨gb, hgb⟩ : ∃ gb, A.gb g = gb := ⟨_, rfl⟩
  rw [hgb] at hB HB hne hlt ⊢ q1 q2
  have HGB := Lib.hid hgb
  clear h n hc hg hB hl hgb m0
  go_enter Tryz.func70, Tryz.ntmps70
  go_wp2_with fail
  go_ret
  rw [← HGB.out]
  exact effD_some rfl rfl (eff_count H.out N.out HC.out HG.out (256 * a + b) (Ex.refl _) (by rw [show ((256 * a + b : Nat) : Int) = 256 * (a : Int) + (b : Int) by omega]; exact Ex.made _ _))

set_option maxHeartbeats 3200000 in
theorem dec_m {w : World} {A : Adr} {t : Nat → Tg} {mb : Nat} {F : Fns} {m : MS} (h : Md w A t mb F m) (n : New w t) {cb : Nat} {cc : CmI} (hc : Cb w A t cb cc 0) {g : Nat} (hg : g < m.gs.length) (hl : (m.at g).stack.length = 16) (op : Int) (a b c : Nat) (hn : (m.at g).count ≤ 100000) :
    Calls Tryz.prog 71 #[.pointer (some ⟨mb, 0, none⟩), .int .i64 (g : Nat), .pointer (some ⟨A.gb g, 0, none⟩), .agg #[.int .i64 op, .int .i64 (a : Nat), .int .i64 (b : Nat), .int .i64 (c : Nat)], .pointer (some ⟨cb, 4, none⟩)] w
      (EffD w A t mb F cb cc (effM m g 17 a b c)) := by
  have H := Lib.hid h
  have N := Lib.hid n
  have HC := Lib.hid hc
  have HG := Lib.hid hg
  have hB := (h.gor g hg).box
  have HB := Lib.hid hB
  have m0 := fun k => h.box.box.cell k
  have v1 : w.cell? ⟨cb, 4, none⟩ = some (.int .i64 0) := hc.box.cell 4
  have v2 := hc.box.soft 4
  have hne := cb_gb h hc hg
  have hlt := HB.out.lt
  have clt := hc.box.lt
  have mlt := h.box.box.lt
  have p1 : w.cell? ⟨A.gb g, 1, none⟩ = some (.int .i64 ((m.at g).pc : Nat)) := by rw [hB.cell]; rfl
  have p2 := hB.soft 1
  have q1 : w.cell? ⟨A.gb g, 2, none⟩ = some (.int .i64 ((m.at g).count : Nat)) := by rw [hB.cell]; rfl
  have q2 := hB.soft 2
  obtain ⟨n0, hn0⟩ : ∃ v, (m.at g).count = v := ⟨_, rfl⟩
  rw [hn0] at q1 hn
  have HN0 := Lib.hid hn0
  clear hn0
  obtain ⟨gb, hgb⟩ : ∃ gb, A.gb g = gb := ⟨_, rfl⟩
  rw [hgb] at hB HB hne hlt ⊢ p1 p2 q1 q2
  have HGB := Lib.hid hgb
  clear h n hc hg hB hl hgb m0
  go_enter Tryz.func71, Tryz.ntmps71
  by_cases he : 0 < n0
  · have hd : (0 : Int) < (n0 : Int) := by omega
    obtain ⟨n1, rfl⟩ : ∃ k, n0 = k + 1 := ⟨n0 - 1, by omega⟩
    have e1 : IntKind.i64.wrap (((n1 + 1 : Nat) : Int) - 1) = (n1 : Int) := by rw [IntKind.wrap_i64]; omega
    have HE : Hid (effM m g 17 a b c = (m.put g { m.at g with count := n1, pc := a }, 0, some 1)) := Lib.hid (by simp only [effM]; rw [HN0.out, if_pos he, Nat.add_sub_cancel])
    clear he
    go_wp2_with fail
    go_ret
    rw [← HGB.out]
    refine effD_some HE.out rfl (eff_g H.out N.out HC.out HG.out (((Chg.cell (F := fun i => i = A.gb g) w ⟨A.gb g, 2, none⟩ _ rfl).trans (Chg.cell (F := fun i => i = A.gb g) _ ⟨A.gb g, 1, none⟩ _ rfl) (fun _ _ h => h)).ex (Ex.made _ _)) ?_)
    have := (((HB.out.put 2 (.int .i64 (n1 : Nat))).put 1 (.int .i64 (a : Nat))).ex (Ex.made _ (.cells #[.int .i64 op, .int .i64 (a : Nat), .int .i64 (b : Nat), .int .i64 (c : Nat)] 58)))
    rw [gcells_count, gcells_pc, ← HGB.out] at this
    exact this
  · obtain rfl : n0 = 0 := by omega
    have HE : Hid (effM m g 17 a b c = (m, 0, some 1)) := Lib.hid (by simp only [effM]; rw [HN0.out, if_neg (by omega)])
    clear he
    have e0 : ((0 : Nat) : Int) = 0 := rfl
    rw [e0] at q1
    go_wp2_with fail
    go_ret
    exact effD_some HE.out rfl (eff_ex H.out N.out HC.out (Ex.made _ _))

end Go.Proofs.YtmlobpapjfkbmaaGreat

