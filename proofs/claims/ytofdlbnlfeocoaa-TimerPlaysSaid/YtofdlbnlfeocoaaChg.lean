/- Worlds that differ in some blocks alone; rows and boxes that stay. -/
import Derived.Test.YtofdlbnlfeocoaaOwn
import Derived.OwnWalk
import Derived.Laws.OwnMore
import Derived.OneCell
namespace Go.Proofs.Ytofdlbnlfeocoaa
open Go.RowKit
set_option linter.unusedVariables false

/-- From a world to a later one: new blocks, and writes to the blocks of F alone. -/
structure Chg (F : Nat → Prop) (w w' : World) : Prop where
  os : w'.os = w.os
  tape : w'.tape = w.tape
  output : w'.output = w.output
  size : w.heap.size ≤ w'.heap.size
  block : ∀ k, k < w.heap.size → ¬ F k → w'.heap[k]? = w.heap[k]?

theorem Chg.refl (F : Nat → Prop) (w : World) : Chg F w w := ⟨rfl, rfl, rfl, Nat.le_refl _, fun _ _ _ => rfl⟩
theorem Chg.trans {F G : Nat → Prop} {a b c : World} (h : Chg F a b) (k : Chg G b c) (hs : ∀ i, i < a.heap.size → G i → F i) : Chg F a c :=
  ⟨k.os.trans h.os, k.tape.trans h.tape, k.output.trans h.output, Nat.le_trans h.size k.size, fun i hi hf => (k.block i (Nat.lt_of_lt_of_le hi h.size) (fun g => hf (hs i hi g))).trans (h.block i hi hf)⟩
theorem Chg.ex {F : Nat → Prop} {a b c : World} (h : Chg F a b) (k : Ex b c) : Chg F a c :=
  ⟨k.os.trans h.os, k.tape.trans h.tape, k.output.trans h.output, Nat.le_trans h.size k.size, fun i hi hf => (k.block i (Nat.lt_of_lt_of_le hi h.size)).trans (h.block i hi hf)⟩
theorem Ex.chg {w w' : World} (h : Ex w w') (F : Nat → Prop) : Chg F w w' := ⟨h.os, h.tape, h.output, h.size, fun i hi _ => h.block i hi⟩
theorem Chg.weak {F G : Nat → Prop} {a b : World} (h : Chg F a b) (hs : ∀ i, i < a.heap.size → F i → G i) : Chg G a b :=
  ⟨h.os, h.tape, h.output, h.size, fun i hi hg => h.block i hi (fun f => hg (hs i hi f))⟩
theorem Chg.below {F : Nat → Prop} {a b : World} (h : Chg F a b) {B : Nat} (hB : B ≤ a.heap.size) (hs : ∀ i, F i → B ≤ i) : Below B a b :=
  ⟨h.os, h.tape, h.output, h.size, fun i hi => h.block i (by omega) (fun f => by have := hs i f; omega)⟩
theorem Chg.grown {F : Nat → Prop} {a b : World} {row : Option Nat} (h : a.grownBy b row) (hs : ∀ i, row = some i → F i) : Chg F a b :=
  ⟨h.os, h.tape, h.output, h.size, fun i hi hf => h.block i hi (fun e => hf (hs i e.symm))⟩
theorem Chg.cell {F : Nat → Prop} (w : World) (p : Addr) (u : Value) (hF : F p.block) : Chg F w (w.setCell p u) :=
  ⟨rfl, rfl, rfl, by simp [World.setCell], fun i hi hf => heap_setCell_other w p i u (fun e => hf (e ▸ hF))⟩
theorem Chg.drew {F : Nat → Prop} {a b : World} (h : Chg F a b) (n : Nat) : Chg F a (b.drewN n) := h.ex (Ex.drawn b n)
theorem Chg.drew1 {F : Nat → Prop} {a b : World} (h : Chg F a b) : Chg F a b.drew := h.ex (Ex.drawn b 1)
theorem Box.chg {F : Nat → Prop} {w w' : World} {b : Nat} {cs : Array Value} {t : TypeId} (h : Box w b cs t) (k : Chg F w w') (hb : ¬ F b) : Box w' b cs t := (k.block b h.lt hb).trans h
theorem Box.put {w : World} {b : Nat} {cs : Array Value} {t : TypeId} (h : Box w b cs t) (j : Nat) (v : Value) : Box (w.setCell ⟨b, j, none⟩ v) b (cs.setIfInBounds j v) t := by
  unfold Box at *
  simp [World.setCell, Array.getElem?_modify, h]
theorem Box.put_other {w : World} {a b : Nat} {cs : Array Value} {t : TypeId} (h : Box w a cs t) (hab : a ≠ b) (j : Nat) (v : Value) : Box (w.setCell ⟨b, j, none⟩ v) a cs t := by
  unfold Box at *
  simp [World.setCell, Array.getElem?_modify, h, Ne.symm hab]
theorem Box.row {w : World} {b : Nat} {cs ds : Array Value} {t : TypeId} (h : Box w b cs t) : Box (w.setRow b ds) b ds t := setRow_heap w b cs ds t (0, 0) h
theorem Box.drew {w : World} {b : Nat} {cs : Array Value} {t : TypeId} (h : Box w b cs t) (n : Nat) : Box (w.drewN n) b cs t := h

theorem row_chg {F : Nat → Prop} {w w' : World} {base : Nat} {e : TypeId} {size : Nat} {v : Value} {n : Nat} {xs : List Value} (h : w.ownsRow base e size v n xs) (k : Chg F w w') (hF : ∀ g, v.ownBlock = some g → ¬ F g) :
    w'.ownsRow base e size v n xs := by
  refine ⟨h.1, ?_⟩
  rcases h.2 with ⟨h1, h2⟩ | ⟨g, cap, cur, rfl, h2, h3, h4⟩
  · exact .inl ⟨h1, h2⟩
  · refine .inr ⟨g, cap, cur, rfl, h2, ?_, h4⟩
    have hlt := (Array.getElem?_eq_some_iff.1 h3).1
    exact (k.block g hlt (hF g rfl)).trans h3

/-- A row's shape. -/
theorem row_shape {w : World} {base : Nat} {e : TypeId} {size : Nat} {v : Value} {n : Nat} {xs : List Value} (h : w.ownsRow base e size v n xs) :
    (v = .slice none 0 0 ∧ n = 0 ∧ xs = []) ∨ ∃ g cap, v = .slice (some ⟨g, 0, none⟩) n cap ∧ base ≤ g ∧ g < w.heap.size ∧ n ≤ cap ∧ cap ≤ maxLen := by
  rcases h.2 with ⟨h1, h2⟩ | ⟨g, cap, cur, rfl, h2, h3, h4, h5, _⟩
  · refine .inl ⟨h1, h2, ?_⟩
    have := h.1
    rw [h2, Nat.zero_mul] at this
    exact List.eq_nil_of_length_eq_zero this
  · exact .inr ⟨g, cap, rfl, h2, (Array.getElem?_eq_some_iff.1 h3).1, h4, h5⟩

end Go.Proofs.Ytofdlbnlfeocoaa
