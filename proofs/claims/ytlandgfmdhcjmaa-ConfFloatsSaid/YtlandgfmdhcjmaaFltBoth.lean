/- Float, of package fix and of the document: for every float the same number. -/
import Derived.Test.YtlandgfmdhcjmaaFltWalk
namespace Go.Proofs.Ytlandgfmdhcjmaa
open Ieee Go.RowKit
set_option linter.unusedVariables false

theorem fl_nan (x : Nat) (w : World) (o0 : FloatKind.f64.format.order x x = none) :
    Calls Try.prog 18 #[.float .f64 x] w fun e w' => e = .returned (.int .i64 0) ∧ w = w' := by
  go_enter Try.func18, Try.ntmps18
  go_wp2
  go_ret
  exact ⟨rfl, rfl⟩
theorem rf_nan (x : Nat) (w : World) (o0 : FloatKind.f64.format.order x x = none) :
    Calls Try.prog 19 #[.float .f64 x] w fun e w' => e = .returned (.int .i64 0) ∧ w = w' := by
  go_enter Try.func19, Try.ntmps19
  go_wp2
  go_ret
  exact ⟨rfl, rfl⟩
theorem fl_hi (x : Nat) (w : World) (o0 : FloatKind.f64.format.order x x = some .eq) (o1 : FloatKind.f64.format.order x 4800837202776948736 = some .gt ∨ FloatKind.f64.format.order x 4800837202776948736 = some .eq) :
    Calls Try.prog 18 #[.float .f64 x] w fun e w' => e = .returned (.int .i64 9223372036854775807) ∧ w = w' := by
  rcases o1 with o1 | o1
  all_goals
    go_enter Try.func18, Try.ntmps18
    go_wp2
    go_ret
    exact ⟨rfl, rfl⟩
theorem rf_hi (x : Nat) (w : World) (o0 : FloatKind.f64.format.order x x = some .eq) (o1 : FloatKind.f64.format.order x 4800837202776948736 = some .gt ∨ FloatKind.f64.format.order x 4800837202776948736 = some .eq) :
    Calls Try.prog 19 #[.float .f64 x] w fun e w' => e = .returned (.int .i64 9223372036854775807) ∧ w = w' := by
  rcases o1 with o1 | o1
  all_goals
    go_enter Try.func19, Try.ntmps19
    go_wp2
    go_ret
    exact ⟨rfl, rfl⟩
theorem fl_lo (x : Nat) (w : World) (o0 : FloatKind.f64.format.order x x = some .eq) (o1 : FloatKind.f64.format.order x 4800837202776948736 = some .lt) (o2 : FloatKind.f64.format.order x 14024209239631724544 = some .lt ∨ FloatKind.f64.format.order x 14024209239631724544 = some .eq) :
    Calls Try.prog 18 #[.float .f64 x] w fun e w' => e = .returned (.int .i64 (-9223372036854775808)) ∧ w = w' := by
  rcases o2 with o2 | o2
  all_goals
    go_enter Try.func18, Try.ntmps18
    go_wp2
    go_ret
    exact ⟨rfl, rfl⟩
theorem rf_lo (x : Nat) (w : World) (o0 : FloatKind.f64.format.order x x = some .eq) (o1 : FloatKind.f64.format.order x 4800837202776948736 = some .lt) (o2 : FloatKind.f64.format.order x 14024209239631724544 = some .lt ∨ FloatKind.f64.format.order x 14024209239631724544 = some .eq) :
    Calls Try.prog 19 #[.float .f64 x] w fun e w' => e = .returned (.int .i64 (-9223372036854775808)) ∧ w = w' := by
  rcases o2 with o2 | o2
  all_goals
    go_enter Try.func19, Try.ntmps19
    go_wp2
    go_ret
    exact ⟨rfl, rfl⟩

theorem rf_in (x m : Nat) (n k : Int) (w : World) (o0 : FloatKind.f64.format.order x x = some .eq) (o1 : FloatKind.f64.format.order x 4800837202776948736 = some .lt) (o2 : FloatKind.f64.format.order x 14024209239631724544 = some .gt)
    (hm : floatBits .mul .f64 x 4697254411347427328 = some m) (hk : floatToIntVal .f64 m .i64 = some k) (n1 : -9223372036854775808 ≤ n) (n2 : n ≤ 9223372036854775807) (k1 : -9223372036854775808 ≤ k) (k2 : k ≤ 9223372036854775807)
    (ho : (FloatKind.f64.format.order (floatOfInt .f64 k) m = some .gt ∧ k - 1 = n) ∨ ((FloatKind.f64.format.order (floatOfInt .f64 k) m == some .gt) = false ∧ k = n)) :
    Calls Try.prog 19 #[.float .f64 x] w fun e w' => e = .returned (.int .i64 n) ∧ w = w' := by
  have hmul := fun w => run_float_arith (P := Try.prog) w .mul 22 .f64 x _ m hm
  have hconv := fun w => run_convert_float_int (P := Try.prog) w 22 2 .f64 .i64 m k (by kernel_rfl) Try.underlying2 hk
  rcases ho with ⟨o3, rfl⟩ | ⟨o3, rfl⟩
  all_goals
    go_enter Try.func19, Try.ntmps19
    go_wp2
    go_ret
    exact ⟨rfl, rfl⟩

/-- For every float one number. -/
theorem float_both (x : Nat) : ∃ n : Int, -9223372036854775808 ≤ n ∧ n ≤ 9223372036854775807 ∧
    (∀ w, Calls Try.prog 18 #[.float .f64 x] w fun e w' => e = .returned (.int .i64 n) ∧ w = w') ∧
    (∀ w, Calls Try.prog 19 #[.float .f64 x] w fun e w' => e = .returned (.int .i64 n) ∧ w = w') := by
  rcases read_cases x with ⟨s, f, h⟩ | ⟨s, h⟩ | ⟨V, h⟩
  · have o0 : FloatKind.f64.format.order x x = none := by
      show double.order x x = none
      unfold Format.order; rw [h]; rfl
    exact ⟨0, by omega, by omega, fun w => fl_nan x w o0, fun w => rf_nan x w o0⟩
  · have o0 : FloatKind.f64.format.order x x = some .eq := not_nan_order (by intro a b k; rw [h] at k; cases k)
    obtain ⟨a, b, c, ha, -⟩ := hi_val.ex
    obtain ⟨a', b', c', hb, -⟩ := lo_val.ex
    have q1 : FloatKind.f64.format.order x 4800837202776948736 = some (if s then .lt else .gt) := by
      show double.order _ _ = _
      unfold Format.order; rw [h, ha]; rfl
    have q2 : FloatKind.f64.format.order x 14024209239631724544 = some (if s then .lt else .gt) := by
      show double.order _ _ = _
      unfold Format.order; rw [h, hb]; rfl
    cases s
    · exact ⟨9223372036854775807, by omega, by omega, fun w => fl_hi x w o0 (.inl q1), fun w => rf_hi x w o0 (.inl q1)⟩
    · exact ⟨-9223372036854775808, by omega, by omega, fun w => fl_lo x w o0 q1 (.inl q2), fun w => rf_lo x w o0 q1 (.inl q2)⟩
  · have o0 : FloatKind.f64.format.order x x = some .eq := (order_val h h).trans (by rw [Int.compare_eq_eq.2 rfl])
    have q1 : FloatKind.f64.format.order x 4800837202776948736 = _ := order_val h hi_val
    have q2 : FloatKind.f64.format.order x 14024209239631724544 = _ := order_val h lo_val
    rcases Int.lt_trichotomy V (8796093022208 * T) with l | l | l
    · rw [Int.compare_eq_lt.2 l] at q1
      rcases Int.lt_trichotomy V (-8796093022208 * T) with l' | l' | l'
      · rw [Int.compare_eq_lt.2 l'] at q2
        exact ⟨-9223372036854775808, by omega, by omega, fun w => fl_lo x w o0 q1 (.inl q2), fun w => rf_lo x w o0 q1 (.inl q2)⟩
      · rw [Int.compare_eq_eq.2 l'] at q2
        exact ⟨-9223372036854775808, by omega, by omega, fun w => fl_lo x w o0 q1 (.inr q2), fun w => rf_lo x w o0 q1 (.inr q2)⟩
      · rw [Int.compare_eq_gt.2 l'] at q2
        obtain ⟨m, r, n, k, f1, f2, f3, f4, f5, f6, f7, f8, f9, f10, f11, f12⟩ := fix_facts h l' l
        refine ⟨n, f9, f10, fun w => float_walk x m r n w o0 q1 q2 f1 f2 f3, fun w => rf_in x m n k w o0 q1 q2 f1 f7 f9 f10 f11 f12 ?_⟩
        rcases f8 with g | ⟨g1, g2⟩
        · exact .inl g
        · have g1' : ¬ (FloatKind.f64.format.order (floatOfInt .f64 k) m = some .gt) := g1
          exact .inr ⟨by simpa using g1', g2⟩
    · rw [Int.compare_eq_eq.2 l] at q1
      exact ⟨9223372036854775807, by omega, by omega, fun w => fl_hi x w o0 (.inr q1), fun w => rf_hi x w o0 (.inr q1)⟩
    · rw [Int.compare_eq_gt.2 l] at q1
      exact ⟨9223372036854775807, by omega, by omega, fun w => fl_hi x w o0 (.inl q1), fun w => rf_hi x w o0 (.inl q1)⟩

end Go.Proofs.Ytlandgfmdhcjmaa
