/- Sums and differences of package fix: their contracts. -/
import Derived.Test.YtomegcicfpmefaaFixA
namespace Go.Proofs.Ytomegcicfpmefaa
open Go.RowKit
set_option linter.unusedVariables false

set_option maxHeartbeats 400000 in
theorem fAdd_any (a b : Int) (w : World) (a1 : -9223372036854775808 ≤ a) (a2 : a ≤ 9223372036854775807) (b1 : -9223372036854775808 ≤ b) (b2 : b ≤ 9223372036854775807) :
    Calls Try.prog 18 #[.int .i64 a, .int .i64 b] w fun e w' => e = .returned (.int .i64 (fAdd a b)) ∧ w = w' := by
  by_cases hb : 0 < b
  · by_cases h : 9223372036854775807 - b < a
    · go_enter Try.func18, Try.ntmps18
      go_wp2_with (go_at_call 26; refine (edge_any _ _).mono ?_; rintro e w' ⟨rfl, rfl⟩)
      go_ret
      exact ⟨ret_int (by simp only [fAdd]; rw [clamp_above (by omega)]; rfl), rfl⟩
    · go_enter Try.func18, Try.ntmps18
      go_wp2
      go_ret
      exact ⟨ret_int (clamp_in (by omega) (by omega)).symm, rfl⟩
  · by_cases hb' : b < 0
    · by_cases h : a < -9223372036854775808 - b
      · go_enter Try.func18, Try.ntmps18
        go_wp2_with (go_at_call 26; refine (edge_any _ _).mono ?_; rintro e w' ⟨rfl, rfl⟩)
        go_ret
        exact ⟨ret_int (by simp only [fAdd]; rw [clamp_below (by omega)]; rfl), rfl⟩
      · go_enter Try.func18, Try.ntmps18
        go_wp2
        go_ret
        exact ⟨ret_int (clamp_in (by omega) (by omega)).symm, rfl⟩
    · go_enter Try.func18, Try.ntmps18
      go_wp2
      go_ret
      exact ⟨ret_int (clamp_in (by omega) (by omega)).symm, rfl⟩

set_option maxHeartbeats 400000 in
theorem fSub_any (a b : Int) (w : World) (a1 : -9223372036854775808 ≤ a) (a2 : a ≤ 9223372036854775807) (b1 : -9223372036854775808 ≤ b) (b2 : b ≤ 9223372036854775807) :
    Calls Try.prog 24 #[.int .i64 a, .int .i64 b] w fun e w' => e = .returned (.int .i64 (fSub a b)) ∧ w = w' := by
  by_cases hb : b < 0
  · by_cases h : 9223372036854775807 + b < a
    · go_enter Try.func24, Try.ntmps24
      go_wp2_with (go_at_call 26; refine (edge_any _ _).mono ?_; rintro e w' ⟨rfl, rfl⟩)
      go_ret
      exact ⟨ret_int (by simp only [fSub]; rw [clamp_above (by omega)]; rfl), rfl⟩
    · go_enter Try.func24, Try.ntmps24
      go_wp2
      go_ret
      exact ⟨ret_int (clamp_in (by omega) (by omega)).symm, rfl⟩
  · by_cases hb' : 0 < b
    · by_cases h : a < -9223372036854775808 + b
      · go_enter Try.func24, Try.ntmps24
        go_wp2_with (go_at_call 26; refine (edge_any _ _).mono ?_; rintro e w' ⟨rfl, rfl⟩)
        go_ret
        exact ⟨ret_int (by simp only [fSub]; rw [clamp_below (by omega)]; rfl), rfl⟩
      · go_enter Try.func24, Try.ntmps24
        go_wp2
        go_ret
        exact ⟨ret_int (clamp_in (by omega) (by omega)).symm, rfl⟩
    · go_enter Try.func24, Try.ntmps24
      go_wp2
      go_ret
      exact ⟨ret_int (clamp_in (by omega) (by omega)).symm, rfl⟩

end Go.Proofs.Ytomegcicfpmefaa
