/- FixSums: sums, differences, products, quotients are what the document says, saturated: for every two numbers. -/
import Derived.Test.YtdmoacihidligaaTold1
import Derived.Test.YtdmoacihidligaaRefAdd
namespace Go.Proofs.Ytdmoacihidligaa
open Go.RowKit

set_option maxHeartbeats 400000 in
theorem walk_FixSums (a b : Int) (w0 : (Lit.int .i64 a).wf = true) (w1 : (Lit.int .i64 b).wf = true) (w : World) :
    Calls Try.prog 9 #[.int .i64 a, .int .i64 b] w fun e w' => e = .returned (.bool true) ∧ Grown w w' := by
  have a1 : -9223372036854775808 ≤ a := by simp [Lit.wf] at w0; exact w0.1
  have a2 : a ≤ 9223372036854775807 := by simp [Lit.wf] at w0; exact w0.2
  have b1 : -9223372036854775808 ≤ b := by simp [Lit.wf] at w1; exact w1.1
  have b2 : b ≤ 9223372036854775807 := by simp [Lit.wf] at w1; exact w1.2
  clear w0 w1
  go_enter Try.func9, Try.ntmps9
  go_wp2_with fail
  refine (told_any _).mono ?_
  rintro e w1 ⟨rfl, hw⟩
  have Hw1 := Lib.hid hw
  clear hw
  go_wp2_with fail
  refine (fAdd_any a b _ a1 a2 b1 b2).mono ?_
  rintro e w' ⟨rfl, rfl⟩
  go_wp2_with fail
  refine (rAdd_any a b _ a1 a2 b1 b2).mono ?_
  rintro e w' ⟨rfl, rfl⟩
  go_wp2_with fail
  refine (fSub_any a b _ a1 a2 b1 b2).mono ?_
  rintro e w' ⟨rfl, rfl⟩
  go_wp2_with fail
  refine (rSub_any a b _ a1 a2 b1 b2).mono ?_
  rintro e w' ⟨rfl, rfl⟩
  go_wp2_with fail
  refine (fMul_any a b _ a1 a2 b1 b2).mono ?_
  rintro e w' ⟨rfl, rfl⟩
  go_wp2_with fail
  refine (rMul_any a b _ a1 a2 b1 b2).mono ?_
  rintro e w' ⟨rfl, rfl⟩
  go_wp2_with fail
  refine (fDiv_any a b _ a1 a2 b1 b2).mono ?_
  rintro e w2 ⟨rfl, hw⟩
  have Hw2 := Lib.hid (Hw1.out.trans hw)
  clear hw Hw1
  go_wp2_with fail
  refine (rDiv_any a b _ a1 a2 b1 b2).mono ?_
  rintro e w3 ⟨rfl, hw⟩
  have Hw3 := Lib.hid (Hw2.out.trans hw)
  clear hw Hw2
  go_wp2_with fail
  go_ret
  exact ⟨rfl, Hw3.out.grown⟩

end Go.Proofs.Ytdmoacihidligaa
