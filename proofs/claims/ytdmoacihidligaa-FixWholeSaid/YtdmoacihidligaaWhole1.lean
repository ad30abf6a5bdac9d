/- FixWhole: whole numbers and floats become fixed-point ones and back as the document says: for every number and every float. -/
import Derived.Test.YtdmoacihidligaaTold1
import Derived.Test.YtdmoacihidligaaRefAdd
import Derived.Test.YtdmoacihidligaaFltBoth
namespace Go.Proofs.Ytdmoacihidligaa
open Go.RowKit
set_option linter.unusedVariables false

theorem rInt_any (a : Int) (w : World) :
    Calls Try.prog 17 #[.int .i64 a] w fun e w' => e = .returned (.int .i64 (fInt a)) ∧ w = w' := by
  go_enter Try.func17, Try.ntmps17
  go_wp2
  go_ret
  exact ⟨ret_int (by unfold fInt; simp [Int.shiftRight_eq_div_pow]), rfl⟩

set_option maxHeartbeats 400000 in
theorem walk_FixWhole (n : Int) (x : Nat) (w0 : (Lit.int .i64 n).wf = true) (w : World) :
    Calls Try.prog 4 #[.int .i64 n, .float .f64 x] w fun e w' => e = .returned (.bool true) ∧ Grown w w' := by
  have n1 : -9223372036854775808 ≤ n := by simp [Lit.wf] at w0; exact w0.1
  have n2 : n ≤ 9223372036854775807 := by simp [Lit.wf] at w0; exact w0.2
  clear w0
  obtain ⟨fx, f1, f2, hf1, hf2⟩ := float_both x
  obtain ⟨rn, ho, hr1, hr2⟩ := real_both n
  obtain ⟨wn, hwn⟩ : ∃ v, fWhole n = v := ⟨_, rfl⟩
  obtain ⟨im, him⟩ : ∃ v, fInt n = v := ⟨_, rfl⟩
  have k1 := fun w => fWhole_any n w n1 n2
  have k2 := fun w => rWhole_any n w n1 n2
  have k3 := fun w => fInt_any n w
  have k4 := fun w => rInt_any n w
  rw [hwn] at k1 k2
  rw [him] at k3 k4
  have K1 := Lib.hid k1
  have K2 := Lib.hid k2
  have K3 := Lib.hid k3
  have K4 := Lib.hid k4
  have F1 := Lib.hid hf1
  have F2 := Lib.hid hf2
  have R1 := Lib.hid hr1
  have R2 := Lib.hid hr2
  clear hf1 hf2 hr1 hr2 hwn him k1 k2 k3 k4
  go_enter Try.func4, Try.ntmps4
  go_wp2_with fail
  refine (told_any _).mono ?_
  rintro e w1 ⟨rfl, hw⟩
  have Hw1 := Lib.hid hw
  clear hw
  go_wp2_with fail
  refine (K1.out _).mono ?_
  rintro e w' ⟨rfl, rfl⟩
  go_wp2_with fail
  refine (K2.out _).mono ?_
  rintro e w' ⟨rfl, rfl⟩
  go_wp2_with fail
  refine (K3.out _).mono ?_
  rintro e w' ⟨rfl, rfl⟩
  go_wp2_with fail
  refine (K4.out _).mono ?_
  rintro e w' ⟨rfl, rfl⟩
  go_wp2_with fail
  refine (F1.out _).mono ?_
  rintro e w' ⟨rfl, rfl⟩
  go_wp2_with fail
  refine (F2.out _).mono ?_
  rintro e w' ⟨rfl, rfl⟩
  go_wp2_with fail
  refine (R1.out _).mono ?_
  rintro e w' ⟨rfl, rfl⟩
  go_wp2_with fail
  refine (R2.out _).mono ?_
  rintro e w' ⟨rfl, rfl⟩
  go_wp2_with fail
  go_ret
  exact ⟨rfl, Hw1.out.grown⟩

end Go.Proofs.Ytdmoacihidligaa
