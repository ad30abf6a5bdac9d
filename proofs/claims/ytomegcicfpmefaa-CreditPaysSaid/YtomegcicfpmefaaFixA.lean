/- The small functions of package fix: their contracts. -/
import Derived.Test.YtomegcicfpmefaaBase
namespace Go.Proofs.Ytomegcicfpmefaa
open Go.RowKit
set_option linter.unusedVariables false

theorem edge_any (b : Bool) (w : World) : Calls Try.prog 26 #[.bool b] w fun e w' => e = .returned (.int .i64 (if b then fMin else fMax)) ∧ w = w' := by
  cases b
  · go_enter Try.func26, Try.ntmps26
    go_wp2
    go_ret
    exact ⟨rfl, rfl⟩
  · go_enter Try.func26, Try.ntmps26
    go_wp2
    go_ret
    exact ⟨rfl, rfl⟩

set_option maxHeartbeats 400000 in
theorem size_any (a : Int) (w : World) (h1 : -9223372036854775808 ≤ a) (h2 : a ≤ 9223372036854775807) :
    Calls Try.prog 20 #[.int .i64 a] w fun e w' => e = .returned (.int .u64 (a.natAbs : Int)) ∧ w = w' := by
  by_cases h : a < 0
  · go_enter Try.func20, Try.ntmps20
    go_wp2
    go_ret
    exact ⟨ret_int (by simp only [IntKind.wrap_u64]; omega), rfl⟩
  · go_enter Try.func20, Try.ntmps20
    go_wp2
    go_ret
    exact ⟨ret_int (by omega), rfl⟩

theorem add64_run (x : Nat) (hx : x < 18446744073709551616) (w : World) :
    (callFunc 28 #[.int .u64 x, .int .u64 1, .int .u64 0]).run Try.prog w =
      .ok (.value (.tuple #[.int .u64 (((x + 1) % 18446744073709551616 : Nat) : Int), .int .u64 (((x + 1) / 18446744073709551616 : Nat) : Int)])) w := by
  rw [run_callFunc_extern Try.func28 (by kernel_rfl) (by kernel_rfl) (by kernel_rfl) (e := add64Entry) (by kernel_rfl)]
  rw [run_add64 (P := Try.prog) x 1 0 (by omega) (by omega) (by omega) (by omega) w]
  simp only [Result.andThen]
  congr 5 <;> omega

set_option maxHeartbeats 400000 in
theorem made_x (hi lo : Nat) (more : Bool) (w : World) (h1 : hi < 18446744073709551615) (h2 : lo < 18446744073709551616) :
    Calls Try.prog 22 #[.int .u64 hi, .int .u64 lo, .bool false, .bool more] w fun e w' => e = .returned (.int .i64 (madeV (hi * 18446744073709551616 + lo) false more)) ∧ w = w' := by
  by_cases c1 : 0 < hi
  · go_enter Try.func22, Try.ntmps22
    go_wp2_with (go_at_call 26; refine (edge_any _ _).mono ?_; rintro e w' ⟨rfl, rfl⟩)
    go_ret
    exact ⟨ret_int (by rw [madeV_pos, clamp_above (by omega)]; rfl), rfl⟩
  · obtain rfl : hi = 0 := by omega
    by_cases c2 : 9223372036854775808 < lo
    · go_enter Try.func22, Try.ntmps22
      go_wp2_with (go_at_call 26; refine (edge_any _ _).mono ?_; rintro e w' ⟨rfl, rfl⟩)
      go_ret
      exact ⟨ret_int (by rw [madeV_pos, clamp_above (by omega)]; rfl), rfl⟩
    · by_cases c3 : lo = 9223372036854775808
      · subst c3
        go_enter Try.func22, Try.ntmps22
        go_wp2_with (go_at_call 26; refine (edge_any _ _).mono ?_; rintro e w' ⟨rfl, rfl⟩)
        go_ret
        exact ⟨ret_int (by rw [madeV_pos, clamp_above (by omega)]; rfl), rfl⟩
      · have c3' : ((lo : Int) == 9223372036854775808) = false := by simp; omega
        go_enter Try.func22, Try.ntmps22
        go_wp2_with (go_at_call 26; refine (edge_any _ _).mono ?_; rintro e w' ⟨rfl, rfl⟩)
        go_ret
        exact ⟨ret_int (by rw [madeV_pos, clamp_in (by omega) (by omega)]; omega), rfl⟩

set_option maxHeartbeats 400000 in
theorem made_f (hi lo : Nat) (w : World) (h1 : hi < 18446744073709551615) (h2 : lo < 18446744073709551616) :
    Calls Try.prog 22 #[.int .u64 hi, .int .u64 lo, .bool true, .bool false] w fun e w' => e = .returned (.int .i64 (madeV (hi * 18446744073709551616 + lo) true false)) ∧ w = w' := by
  by_cases c1 : 0 < hi
  · go_enter Try.func22, Try.ntmps22
    go_wp2_with (go_at_call 26; refine (edge_any _ _).mono ?_; rintro e w' ⟨rfl, rfl⟩)
    go_ret
    exact ⟨ret_int (by rw [madeV_neg, clamp_below (by simp only [Bool.toNat_false]; omega)]; rfl), rfl⟩
  · obtain rfl : hi = 0 := by omega
    by_cases c2 : 9223372036854775808 < lo
    · go_enter Try.func22, Try.ntmps22
      go_wp2_with (go_at_call 26; refine (edge_any _ _).mono ?_; rintro e w' ⟨rfl, rfl⟩)
      go_ret
      exact ⟨ret_int (by rw [madeV_neg, clamp_below (by simp only [Bool.toNat_false]; omega)]; rfl), rfl⟩
    · go_enter Try.func22, Try.ntmps22
      go_wp2_with (go_at_call 26; refine (edge_any _ _).mono ?_; rintro e w' ⟨rfl, rfl⟩)
      go_ret
      exact ⟨ret_int (by rw [madeV_neg, clamp_in (by simp only [Bool.toNat_false]; omega) (by omega)]; simp only [IntKind.wrap_u64, wrap64, Bool.toNat_false]; omega), rfl⟩

set_option maxHeartbeats 400000 in
theorem made_t (hi lo : Nat) (w : World) (h1 : hi < 18446744073709551615) (h2 : lo < 18446744073709551616) :
    Calls Try.prog 22 #[.int .u64 hi, .int .u64 lo, .bool true, .bool true] w fun e w' => e = .returned (.int .i64 (madeV (hi * 18446744073709551616 + lo) true true)) ∧ w = w' := by
  have hadd := add64_run lo h2
  by_cases c0 : lo = 18446744073709551615
  · have e1 : (lo + 1) % 18446744073709551616 = 0 := by omega
    have e2 : (lo + 1) / 18446744073709551616 = 1 := by omega
    rw [e1, e2] at hadd
    have c0' : 18446744073709551615 ≤ lo := by omega
    clear e1 e2 c0
    go_enter Try.func22, Try.ntmps22
    go_wp2_with (go_at_call 26; refine (edge_any _ _).mono ?_; rintro e w' ⟨rfl, rfl⟩)
    go_ret
    exact ⟨ret_int (by rw [madeV_neg, clamp_below (by simp only [Bool.toNat_true]; omega)]; rfl), rfl⟩
  · have e1 : (lo + 1) % 18446744073709551616 = lo + 1 := by omega
    have e2 : (lo + 1) / 18446744073709551616 = 0 := by omega
    rw [e1, e2] at hadd
    clear e1 e2
    by_cases c1 : 0 < hi
    · go_enter Try.func22, Try.ntmps22
      go_wp2_with (go_at_call 26; refine (edge_any _ _).mono ?_; rintro e w' ⟨rfl, rfl⟩)
      go_ret
      exact ⟨ret_int (by rw [madeV_neg, clamp_below (by simp only [Bool.toNat_true]; omega)]; rfl), rfl⟩
    · obtain rfl : hi = 0 := by omega
      obtain ⟨m, hm⟩ : ∃ m, lo + 1 = m := ⟨_, rfl⟩
      rw [hm] at hadd
      have Hm := Lib.hid hm
      by_cases c2 : 9223372036854775808 < m
      · clear hm c1 c0
        go_enter Try.func22, Try.ntmps22
        go_wp2_with (go_at_call 26; refine (edge_any _ _).mono ?_; rintro e w' ⟨rfl, rfl⟩)
        go_ret
        have hm := Hm.out
        exact ⟨ret_int (by rw [madeV_neg, clamp_below (by simp only [Bool.toNat_true]; omega)]; rfl), rfl⟩
      · clear hm c1 c0
        go_enter Try.func22, Try.ntmps22
        go_wp2_with (go_at_call 26; refine (edge_any _ _).mono ?_; rintro e w' ⟨rfl, rfl⟩)
        go_ret
        have hm := Hm.out
        exact ⟨ret_int (by rw [madeV_neg, clamp_in (by simp only [Bool.toNat_true]; omega) (by omega)]; simp only [IntKind.wrap_u64, wrap64, Bool.toNat_true]; omega), rfl⟩

/-- A number of its size and its sign. -/
theorem made_any (hi lo : Nat) (below more : Bool) (w : World) (h1 : hi < 18446744073709551615) (h2 : lo < 18446744073709551616) :
    Calls Try.prog 22 #[.int .u64 hi, .int .u64 lo, .bool below, .bool more] w fun e w' => e = .returned (.int .i64 (madeV (hi * 18446744073709551616 + lo) below more)) ∧ w = w' := by
  cases below
  · exact made_x hi lo more w h1 h2
  · cases more
    · exact made_f hi lo w h1 h2
    · exact made_t hi lo w h1 h2

end Go.Proofs.Ytomegcicfpmefaa
