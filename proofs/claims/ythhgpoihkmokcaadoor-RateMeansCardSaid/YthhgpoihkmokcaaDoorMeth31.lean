/- The heap's interface: its methods. -/
import Derived.Test.YthhgpoihkmokcaaDoorSwap31
import Derived.Outline
namespace Go.Proofs.YthhgpoihkmokcaaDoor
open Go.RowKit
set_option linter.unusedVariables false

theorem method_less {b : Nat} {s : Value} {w : World} (c : w.cell? ⟨b, 0, none⟩ = some s) :
    (method 198 52 (.pointer (some ⟨b, 0, none⟩)) "Less").run Tryd.prog w = .ok (78, s) w := by
  have e : (method 198 52 (.pointer (some ⟨b, 0, none⟩)) "Less").run Tryd.prog w = ((do let v ← loadVar 50 ⟨b, 0, none⟩; pure (78, v)) : Sem (FuncId × Value)).run Tryd.prog w := by kernel_rfl
  rw [e]
  go_simp
theorem method_swap {b : Nat} {s : Value} {w : World} (c : w.cell? ⟨b, 0, none⟩ = some s) :
    (method 198 52 (.pointer (some ⟨b, 0, none⟩)) "Swap").run Tryd.prog w = .ok (79, s) w := by
  have e : (method 198 52 (.pointer (some ⟨b, 0, none⟩)) "Swap").run Tryd.prog w = ((do let v ← loadVar 50 ⟨b, 0, none⟩; pure (79, v)) : Sem (FuncId × Value)).run Tryd.prog w := by kernel_rfl
  rw [e]
  go_simp
theorem method_len {b : Nat} {s : Value} {w : World} (c : w.cell? ⟨b, 0, none⟩ = some s) :
    (method 198 52 (.pointer (some ⟨b, 0, none⟩)) "Len").run Tryd.prog w = .ok (77, s) w := by
  have e : (method 198 52 (.pointer (some ⟨b, 0, none⟩)) "Len").run Tryd.prog w = ((do let v ← loadVar 50 ⟨b, 0, none⟩; pure (77, v)) : Sem (FuncId × Value)).run Tryd.prog w := by kernel_rfl
  rw [e]
  go_simp
theorem method_push (b : Nat) (w : World) :
    (method 198 52 (.pointer (some ⟨b, 0, none⟩)) "Push").run Tryd.prog w = .ok (81, .pointer (some ⟨b, 0, none⟩)) w := by kernel_rfl
theorem method_pop (b : Nat) (w : World) :
    (method 198 52 (.pointer (some ⟨b, 0, none⟩)) "Pop").run Tryd.prog w = .ok (80, .pointer (some ⟨b, 0, none⟩)) w := by kernel_rfl

end Go.Proofs.YthhgpoihkmokcaaDoor
