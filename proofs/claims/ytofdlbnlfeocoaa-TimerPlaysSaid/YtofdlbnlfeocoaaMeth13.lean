/- The heap's interface: its methods. -/
import Derived.Test.YtofdlbnlfeocoaaSwap13
import Derived.Outline
namespace Go.Proofs.Ytofdlbnlfeocoaa
open Go.RowKit
set_option linter.unusedVariables false

theorem method_less {b : Nat} {s : Value} {w : World} (c : w.cell? ⟨b, 0, none⟩ = some s) :
    (method 215 55 (.pointer (some ⟨b, 0, none⟩)) "Less").run Try.prog w = .ok (70, s) w := by
  have e : (method 215 55 (.pointer (some ⟨b, 0, none⟩)) "Less").run Try.prog w = ((do let v ← loadVar 51 ⟨b, 0, none⟩; pure (70, v)) : Sem (FuncId × Value)).run Try.prog w := by kernel_rfl
  rw [e]
  go_simp
theorem method_swap {b : Nat} {s : Value} {w : World} (c : w.cell? ⟨b, 0, none⟩ = some s) :
    (method 215 55 (.pointer (some ⟨b, 0, none⟩)) "Swap").run Try.prog w = .ok (71, s) w := by
  have e : (method 215 55 (.pointer (some ⟨b, 0, none⟩)) "Swap").run Try.prog w = ((do let v ← loadVar 51 ⟨b, 0, none⟩; pure (71, v)) : Sem (FuncId × Value)).run Try.prog w := by kernel_rfl
  rw [e]
  go_simp
theorem method_len {b : Nat} {s : Value} {w : World} (c : w.cell? ⟨b, 0, none⟩ = some s) :
    (method 215 55 (.pointer (some ⟨b, 0, none⟩)) "Len").run Try.prog w = .ok (69, s) w := by
  have e : (method 215 55 (.pointer (some ⟨b, 0, none⟩)) "Len").run Try.prog w = ((do let v ← loadVar 51 ⟨b, 0, none⟩; pure (69, v)) : Sem (FuncId × Value)).run Try.prog w := by kernel_rfl
  rw [e]
  go_simp
theorem method_push (b : Nat) (w : World) :
    (method 215 55 (.pointer (some ⟨b, 0, none⟩)) "Push").run Try.prog w = .ok (73, .pointer (some ⟨b, 0, none⟩)) w := by kernel_rfl
theorem method_pop (b : Nat) (w : World) :
    (method 215 55 (.pointer (some ⟨b, 0, none⟩)) "Pop").run Try.prog w = .ok (72, .pointer (some ⟨b, 0, none⟩)) w := by kernel_rfl

end Go.Proofs.Ytofdlbnlfeocoaa
