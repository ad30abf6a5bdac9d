/- TimerNobody. -/
import Derived.Test.YtofdlbnlfeocoaaTold13
namespace Go.Proofs.Ytofdlbnlfeocoaa
open Go.RowKit
set_option linter.unusedVariables false

set_option maxRecDepth 20000 in
set_option maxHeartbeats 3200000 in
theorem nobody_walk (g t : Int) (w : World) : Calls Try.prog 6 #[.int .i64 g, .int .i64 t] w fun e w' => e = .returned (.bool true) ∧ Below w.heap.size w w' := by
  go_enter Try.func6, Try.ntmps6
  go_wp2_with fail
  refine (tadd_nil w t g).mono ?_
  rintro e w' ⟨rfl, rfl⟩
  go_wp2_with fail
  refine (next_nil w).mono ?_
  rintro e w' ⟨rfl, rfl⟩
  go_wp2_with fail
  refine (told_any w).mono ?_
  rintro e w1 ⟨rfl, h1⟩
  have E1 := Lib.hid h1
  clear h1
  go_wp2_with fail
  refine (due_nil w1 t).mono ?_
  rintro e w2 ⟨rfl, h2⟩
  have E2 := Lib.hid (E1.out.trans h2)
  clear h2
  go_wp2_with fail
  refine (del_nil w2 g).mono ?_
  rintro e w' ⟨rfl, rfl⟩
  go_wp2_with fail
  refine (tlen_nil w2).mono ?_
  rintro e w' ⟨rfl, rfl⟩
  go_wp2_with fail
  refine (all_nil w2).mono ?_
  rintro e w' ⟨rfl, rfl⟩
  go_wp2_with fail
  go_ret
  exact ⟨rfl, E2.out⟩

theorem walk_TimerNobody (g t : Int) (w0 : (Lit.int .i64 g).wf = true) (w1 : (Lit.int .i64 t).wf = true) (w : World) :
    Calls Try.prog 6 #[.int .i64 g, .int .i64 t] w fun e w' => e = .returned (.bool true) ∧ Below w.heap.size w w' := nobody_walk g t w

end Go.Proofs.Ytofdlbnlfeocoaa
