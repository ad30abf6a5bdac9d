/- The law's own few examples. -/
import Derived.Test.YtbbhgcabebjlhaaPacer
namespace Go.Proofs.Ytbbhgcabebjlhaa
open Go.RowKit
set_option linter.unusedVariables false

set_option maxHeartbeats 800000 in
theorem told_any (w : World) : Calls Try.prog 9 #[] w fun e w' => e = .returned (.bool true) ∧ Ex w w' := by
  go_enter Try.func9, Try.ntmps9
  go_wp2_with fail
  refine (kgoal (T := 192) (G := 256) (R := 1048576) (by decide) (by decide) (by decide)).mono ?_
  rintro e w1 ⟨rfl, hw⟩
  have Hw1 := Lib.hid hw
  clear hw
  go_wp2_with fail
  refine (goal_off 100 1024 100 1024 100 _ (by decide) (by decide)).mono ?_
  rintro e w2 ⟨rfl, hw⟩
  have Hw2 := Lib.hid (Hw1.out.new hw)
  have B1 := Lib.hid (Box.new hw)
  clear hw Hw1
  obtain ⟨c0, c1, c2⟩ := B1.out.three
  have l1 := B1.out.lt
  go_wp2_with fail
  refine (begin_any 192 256 1048576 192 true _ (.inl ⟨by decide, by decide, rfl⟩)).mono ?_
  rintro e w3 ⟨rfl, hw⟩
  have Hw3 := Lib.hid (Hw2.out.new hw)
  have B2 := Lib.hid (Box.new hw)
  have B3 := Lib.hid (B1.out.next hw)
  clear hw Hw2 c0 c1 c2 l1 B1
  obtain ⟨c0, c1, c2⟩ := B3.out.three
  obtain ⟨d0, d1, d2⟩ := B2.out.three
  go_wp2_with fail
  refine (begin_any 192 256 1048576 191 false _ (.inr (.inl ⟨by decide, rfl⟩))).mono ?_
  rintro e w4 ⟨rfl, hw⟩
  have Hw4 := Lib.hid (Hw3.out.trans hw)
  have B4 := Lib.hid (B2.out.ex hw)
  clear hw Hw3 c0 c1 c2 d0 d1 d2 B2 B3
  obtain ⟨d0, d1, d2⟩ := B4.out.three
  go_wp2_with fail
  refine (begin_any 1024 1024 0 2000 false _ (.inr (.inr ⟨by decide, by decide, rfl⟩))).mono ?_
  rintro e w5 ⟨rfl, hw⟩
  have Hw5 := Lib.hid (Hw4.out.trans hw)
  clear hw Hw4
  go_wp2_with fail
  go_ret
  exact ⟨rfl, Hw5.out⟩

end Go.Proofs.Ytbbhgcabebjlhaa
