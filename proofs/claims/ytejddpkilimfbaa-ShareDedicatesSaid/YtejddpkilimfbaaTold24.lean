/- The law's own few examples. -/
import Derived.Test.YtejddpkilimfbaaShare
namespace Go.Proofs.Ytejddpkilimfbaa
open Go.RowKit
set_option linter.unusedVariables false

/-- Known values. -/
theorem kworkers {ps part a b : Int} {w : World} (h1 : wk ps part = a) (h2 : wl ps part = b) :
    Calls Try.prog 7 #[.int .i64 ps, .int .i64 part] w fun e w' => e = .returned (.tuple #[.int .i64 a, .int .i64 b]) ∧ Dr w w' := by
  have k := workers_any ps part w
  rw [h1, h2] at k
  exact k
theorem kded {p ps part : Int} {b : Bool} {w : World} (h : isDed p ps part = b) :
    Calls Try.prog 10 #[.int .i64 p, .int .i64 ps, .int .i64 part] w fun e w' => e = .returned (.bool b) ∧ Dr w w' := by
  have k := dedicated_any p ps part w
  rw [h] at k
  exact k
theorem kmay {worked all part : Int} {b : Bool} {w : World} (h : mayB worked all part = b) (p1 : -9223372036854775808 ≤ part) (p2 : part ≤ 9223372036854775807) :
    Calls Try.prog 11 #[.int .i64 worked, .int .i64 all, .int .i64 part] w fun e w' => e = .returned (.bool b) ∧ w = w' := by
  have k := may_any worked all part w p1 p2
  rw [h] at k
  exact k

set_option maxHeartbeats 400000 in
theorem told_any (w : World) : Calls Try.prog 9 #[] w fun e w' => e = .returned (.bool true) ∧ Dr w w' := by
  go_enter Try.func9, Try.ntmps9
  go_wp2_with fail
  refine (kworkers (a := 1) (b := 0) (by decide) (by decide)).mono ?_
  rintro e w1 ⟨rfl, hw⟩
  have Hw1 := Lib.hid hw
  clear hw
  go_wp2_with fail
  refine (kworkers (a := 0) (b := 262144) (by decide) (by decide)).mono ?_
  rintro e w2 ⟨rfl, hw⟩
  have Hw2 := Lib.hid (Hw1.out.trans hw)
  clear hw Hw1
  go_wp2_with fail
  refine (kded (b := true) (by decide)).mono ?_
  rintro e w3 ⟨rfl, hw⟩
  have Hw3 := Lib.hid (Hw2.out.trans hw)
  clear hw Hw2
  go_wp2_with fail
  refine (kded (b := false) (by decide)).mono ?_
  rintro e w4 ⟨rfl, hw⟩
  have Hw4 := Lib.hid (Hw3.out.trans hw)
  clear hw Hw3
  go_wp2_with fail
  refine (kmay (b := true) (by decide) (by omega) (by omega)).mono ?_
  rintro e w' ⟨rfl, rfl⟩
  go_wp2_with fail
  refine (kmay (b := false) (by decide) (by omega) (by omega)).mono ?_
  rintro e w' ⟨rfl, rfl⟩
  go_wp2_with fail
  go_ret
  exact ⟨rfl, Hw4.out⟩

end Go.Proofs.Ytejddpkilimfbaa
