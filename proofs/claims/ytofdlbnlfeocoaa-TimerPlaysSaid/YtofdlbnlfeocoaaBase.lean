/- The ground of the walks. -/
import Derived.Test.YtofdlbnlfeocoaaRows
import Derived.Test.YtofdlbnlfeocoaaFixPlain
import Derived.WalkKit
import Derived.WalkSpells
import Derived.WalkLawsBesides
import Derived.Lib.Hide
namespace Go.Proofs.Ytofdlbnlfeocoaa
open Go.RowKit
set_option linter.unusedVariables false

theorem ret_int {k : IntKind} {a b : Int} (h : a = b) : Ending.returned (.int k a) = .returned (.int k b) := by rw [h]

theorem umod_bd (x m : Int) (hm : 0 < m) : 0 ≤ (IntKind.u64.wrap x).tmod m ∧ (IntKind.u64.wrap x).tmod m < m :=
  ⟨Int.tmod_nonneg m (wrap_u64_nonneg x), Int.tmod_lt_of_pos _ hm⟩

theorem wf64 {a : Int} (h : (Lit.int .i64 a).wf = true) : -9223372036854775808 ≤ a ∧ a ≤ 9223372036854775807 := by
  simp [Lit.wf] at h; exact h

end Go.Proofs.Ytofdlbnlfeocoaa
