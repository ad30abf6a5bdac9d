/- The document's own answer for sums and differences: their contracts. -/
import Derived.Test.YtdmoacihidligaaRef1
namespace Go.Proofs.Ytdmoacihidligaa
open Go.RowKit

set_option maxHeartbeats 400000 in
theorem rAdd_any (a b : Int) (w : World) (a1 : -9223372036854775808 ≤ a) (a2 : a ≤ 9223372036854775807) (b1 : -9223372036854775808 ≤ b) (b2 : b ≤ 9223372036854775807) :
    Calls Try.prog 25 #[.int .i64 a, .int .i64 b] w fun e w' => e = .returned (.int .i64 (fAdd a b)) ∧ w = w' := by
  rcases Int.lt_trichotomy b 0 with hb | hb | hb
  · have hb0 : ¬ 0 < b := by omega
    by_cases h : a < -9223372036854775808 - b
    · go_enter Try.func25, Try.ntmps25
      go_wp2
      go_ret
      exact ⟨ret_int (clamp_below (by omega)).symm, rfl⟩
    · go_enter Try.func25, Try.ntmps25
      go_wp2
      go_ret
      exact ⟨ret_int (clamp_in (by omega) (by omega)).symm, rfl⟩
  · go_enter Try.func25, Try.ntmps25
    go_wp2
    go_ret
    exact ⟨ret_int (by unfold fAdd; rw [clamp_in (by omega) (by omega)]; omega), rfl⟩
  · have hb0 : ¬ b < 0 := by omega
    by_cases h : 9223372036854775807 - b < a
    · go_enter Try.func25, Try.ntmps25
      go_wp2
      go_ret
      exact ⟨ret_int (clamp_above (by omega)).symm, rfl⟩
    · go_enter Try.func25, Try.ntmps25
      go_wp2
      go_ret
      exact ⟨ret_int (clamp_in (by omega) (by omega)).symm, rfl⟩

set_option maxHeartbeats 400000 in
theorem rSub_any (a b : Int) (w : World) (a1 : -9223372036854775808 ≤ a) (a2 : a ≤ 9223372036854775807) (b1 : -9223372036854775808 ≤ b) (b2 : b ≤ 9223372036854775807) :
    Calls Try.prog 26 #[.int .i64 a, .int .i64 b] w fun e w' => e = .returned (.int .i64 (fSub a b)) ∧ w = w' := by
  rcases Int.lt_trichotomy b 0 with hb | hb | hb
  · have hb0 : ¬ 0 < b := by omega
    by_cases h : 9223372036854775807 + b < a
    · go_enter Try.func26, Try.ntmps26
      go_wp2
      go_ret
      exact ⟨ret_int (clamp_above (by omega)).symm, rfl⟩
    · go_enter Try.func26, Try.ntmps26
      go_wp2
      go_ret
      exact ⟨ret_int (clamp_in (by omega) (by omega)).symm, rfl⟩
  · go_enter Try.func26, Try.ntmps26
    go_wp2
    go_ret
    exact ⟨ret_int (by unfold fSub; rw [clamp_in (by omega) (by omega)]; omega), rfl⟩
  · have hb0 : ¬ b < 0 := by omega
    by_cases h : a < -9223372036854775808 + b
    · go_enter Try.func26, Try.ntmps26
      go_wp2
      go_ret
      exact ⟨ret_int (clamp_below (by omega)).symm, rfl⟩
    · go_enter Try.func26, Try.ntmps26
      go_wp2
      go_ret
      exact ⟨ret_int (clamp_in (by omega) (by omega)).symm, rfl⟩

end Go.Proofs.Ytdmoacihidligaa
