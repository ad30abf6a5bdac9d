/- A region that draws its order, whose callees make memory and hand back known values: one walk serves every order. -/
import Derived.Test.YtbbhgcabebjlhaaPacer
import Derived.Deep.QuietTactic
import Derived.BigQuiet
import Derived.Deep.RegionWith
namespace Go.Proofs.Ytbbhgcabebjlhaa
open Go.RowKit
set_option linter.unusedVariables false

/-- The worlds in which nothing of W has turned. -/
def Out (W : World) : Type := { w : World // Ex W w }
instance Out.some (W : World) : Nonempty (Out W) := ⟨⟨W, Ex.refl W⟩⟩
def Out.w {W : World} (x : Out W) : World := x.1

theorem wp_region_ex {P : Program} {id : Nat} {Q : Exit → Act → World → Prop} {a : Act} {W : World} {l : List Oper} (hm : P.follows .mixedOrders = true) (hB : Region.lexB .any l.toArray = true)
    (h : wpQuiet P l.toArray (fun w' => ∃ x : Out W, w' = x.w) (fun a' => ∀ w', (∃ x : Out W, w' = x.w) → Q .normal a' w') l a) : (Code.region id l.toArray true).wp P Q a W :=
  wp_region_quiet (C := fun w' => ∃ x : Out W, w' = x.w) hm hB ⟨⟨{ W with drawn := W.drawn + 1 }, ⟨rfl, rfl, rfl, Nat.le_refl _, fun _ _ => rfl⟩⟩, rfl⟩ (by simpa using h)

theorem quiet_ex {P : Program} {f : FuncId} {args : Array Value} {W : World} {x : Out W} {v : Value} (h : Calls P f args x.w fun e w' => e = .returned v ∧ Ex x.w w') :
    Calls P f args x.w fun e w'' => e = .returned v ∧ ∃ y : Out W, w'' = y.w :=
  h.mono fun _ w' ⟨he, hw⟩ => ⟨he, ⟨w', x.2.trans hw⟩, rfl⟩

theorem Box.outs {W : World} {b : Nat} {x y z : Value} {t : TypeId} (h : Box W b #[x, y, z] t) : ∀ o : Out W, o.w.cell? ⟨b, 0, none⟩ = some x ∧ o.w.cell? ⟨b, 1, none⟩ = some y ∧ o.w.cell? ⟨b, 2, none⟩ = some z :=
  fun o => (h.ex o.2).three
theorem Box.fresh (w : World) (cs : Array Value) (t : TypeId) : Box (w.alloc (.cells cs t)) w.heap.size cs t := heap_alloc_new _ _

end Go.Proofs.Ytbbhgcabebjlhaa
