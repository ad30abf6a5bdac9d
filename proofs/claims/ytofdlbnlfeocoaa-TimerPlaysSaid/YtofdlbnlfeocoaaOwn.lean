/- Worlds with new blocks; blocks that are known whole; regions that draw their order and whose callees make memory. -/
import Derived.Test.YtofdlbnlfeocoaaBase
import Derived.Below
import Derived.Laws.Rows
import Derived.Deep.QuietTactic
import Derived.BigQuiet
import Derived.Deep.RegionWith
namespace Go.Proofs.Ytofdlbnlfeocoaa
open Go.RowKit
set_option linter.unusedVariables false

/-- The world with new blocks: nothing that was there has turned. -/
def Ex (w w' : World) : Prop := Below w.heap.size w w'
theorem Ex.refl (w : World) : Ex w w := Below.refl _ _
theorem Ex.trans {a b c : World} (h : Ex a b) (k : Ex b c) : Ex a c := Below.trans h (Below.mono k h.size)
theorem Ex.drawn (w : World) (n : Nat) : Ex w (w.drewN n) := ⟨rfl, rfl, rfl, Nat.le_refl _, fun _ _ => rfl⟩
theorem Ex.made (w : World) (o : Obj) : Ex w (w.alloc o) := (Below.refl _ _).alloc (Nat.le_refl _) o

/-- A block is known whole. -/
def Box (w : World) (b : Nat) (cs : Array Value) (t : TypeId) : Prop := w.heap[b]? = some (.cells cs t (0, 0))
theorem Box.lt {w : World} {b : Nat} {cs : Array Value} {t : TypeId} (h : Box w b cs t) : b < w.heap.size := (Array.getElem?_eq_some_iff.1 h).1
theorem Box.ex {w w' : World} {b : Nat} {cs : Array Value} {t : TypeId} (h : Box w b cs t) (k : Ex w w') : Box w' b cs t := (k.block b h.lt).trans h
theorem Box.new {w w' : World} {cs : Array Value} {t : TypeId} (k : Ex (w.alloc (.cells cs t)) w') : Box w' w.heap.size cs t :=
  (k.block _ (by simp)).trans (heap_alloc_new _ _)
theorem Box.fresh (w : World) (cs : Array Value) (t : TypeId) : Box (w.alloc (.cells cs t)) w.heap.size cs t := heap_alloc_new _ _
theorem Box.next {w w' : World} {b : Nat} {cs : Array Value} {t : TypeId} {o : Obj} (h : Box w b cs t) (k : Ex (w.alloc o) w') : Box w' b cs t :=
  h.ex (Ex.trans (Ex.made w o) k)
theorem Box.cell {w : World} {b : Nat} {cs : Array Value} {t : TypeId} (h : Box w b cs t) (j : Nat) : w.cell? ⟨b, j, none⟩ = cs[j]? := cell_of_row w b j cs t (0, 0) h
theorem Box.soft {w : World} {b : Nat} {cs : Array Value} {t : TypeId} (h : Box w b cs t) (j : Nat) : w.frozen? ⟨b, j, none⟩ = false := by
  unfold Box at h
  simp [World.frozen?, h]
theorem Ex.new {w w1 w2 : World} {o : Obj} (h : Ex w w1) (k : Ex (w1.alloc o) w2) : Ex w w2 := h.trans (Ex.trans (Ex.made w1 o) k)

/-- The worlds in which nothing of W has turned. -/
def Out (W : World) : Type := { w : World // Ex W w }
instance Out.some (W : World) : Nonempty (Out W) := ⟨⟨W, Ex.refl W⟩⟩
def Out.w {W : World} (x : Out W) : World := x.1

theorem wp_region_ex {P : Program} {id : Nat} {Q : Exit → Act → World → Prop} {a : Act} {W : World} {l : List Oper} (hm : P.follows .mixedOrders = true) (hB : Region.lexB .any l.toArray = true)
    (h : wpQuiet P l.toArray (fun w' => ∃ x : Out W, w' = x.w) (fun a' => ∀ w', (∃ x : Out W, w' = x.w) → Q .normal a' w') l a) : (Code.region id l.toArray true).wp P Q a W :=
  wp_region_quiet (C := fun w' => ∃ x : Out W, w' = x.w) hm hB ⟨⟨{ W with drawn := W.drawn + 1 }, ⟨rfl, rfl, rfl, Nat.le_refl _, fun _ _ => rfl⟩⟩, rfl⟩ (by simpa using h)

theorem quiet_ex {P : Program} {f : FuncId} {args : Array Value} {W : World} {x : Out W} {v : Value} (h : Calls P f args x.w fun e w' => e = .returned v ∧ Ex x.w w') :
    Calls P f args x.w fun e w'' => e = .returned v ∧ ∃ y : Out W, w'' = y.w :=
  h.mono fun _ w' ⟨he, hw⟩ => ⟨he, ⟨w', x.2.trans hw⟩, rfl⟩
theorem quiet_eq {P : Program} {f : FuncId} {args : Array Value} {W : World} {x : Out W} {v : Value} (h : Calls P f args x.w fun e w' => e = .returned v ∧ x.w = w') :
    Calls P f args x.w fun e w'' => e = .returned v ∧ ∃ y : Out W, w'' = y.w :=
  h.mono fun _ w' ⟨he, hw⟩ => ⟨he, x, hw.symm⟩
theorem Box.out {W : World} {b : Nat} {cs : Array Value} {t : TypeId} (h : Box W b cs t) (j : Nat) : ∀ o : Out W, o.w.cell? ⟨b, j, none⟩ = cs[j]? := fun o => (h.ex o.2).cell j

end Go.Proofs.Ytofdlbnlfeocoaa
