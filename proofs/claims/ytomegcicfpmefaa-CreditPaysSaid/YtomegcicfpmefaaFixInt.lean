/- The whole number of a fixed-point one: its contract. -/
import Derived.Test.YtomegcicfpmefaaFixE
namespace Go.Proofs.Ytomegcicfpmefaa
open Go.RowKit
set_option linter.unusedVariables false

set_option maxHeartbeats 400000 in
theorem fInt_any (a : Int) (w : World) :
    Calls Try.prog 10 #[.int .i64 a] w fun e w' => e = .returned (.int .i64 (fInt a)) ∧ w = w' := by
  go_enter Try.func10, Try.ntmps10
  go_wp2
  go_ret
  exact ⟨rfl, rfl⟩

theorem rw_int {a c : Int} {w : World} (h : Hid (fInt a = c)) :
    Calls Try.prog 10 #[.int .i64 a] w fun e w' => e = .returned (.int .i64 c) ∧ w = w' := by
  have k := fInt_any a w
  rw [h.out] at k
  exact k

end Go.Proofs.Ytomegcicfpmefaa
