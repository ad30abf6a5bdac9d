/- Package conf and the document's chapter 2: contracts. -/
import Derived.Test.YtlandgfmdhcjmaaConf2P
namespace Go.Proofs.Ytlandgfmdhcjmaa
open Ieee Go.RowKit
set_option linter.unusedVariables false

/-- The world drawn of. -/
def Dn (w w' : World) : Prop := ∃ n, w' = w.drewN n

theorem isinf_yes (x : Nat) (w : World) (o : FloatKind.f64.format.order x 9218868437227405311 = some .gt) :
    Calls Try.prog 16 #[.float .f64 x, .int .i64 1] w fun e w' => e = .returned (.bool true) ∧ w = w' := by
  go_enter Try.func16, Try.ntmps16
  go_wp2
  go_ret
  exact ⟨rfl, rfl⟩
theorem isinf_no (x : Nat) (w : World) (o : FloatKind.f64.format.order x 9218868437227405311 = some .lt ∨ FloatKind.f64.format.order x 9218868437227405311 = some .eq) :
    Calls Try.prog 16 #[.float .f64 x, .int .i64 1] w fun e w' => e = .returned (.bool false) ∧ w = w' := by
  rcases o with o | o
  all_goals
    go_enter Try.func16, Try.ntmps16
    go_wp2
    go_ret
    exact ⟨rfl, rfl⟩

theorem pc_nan (x : Nat) (w : World) (o0 : FloatKind.f64.format.order x x = none) :
    Calls Try.prog 7 #[.float .f64 x] w fun e w' => e = .returned (.tuple #[.int .i64 100, .bool true]) ∧ w = w' := by
  go_enter Try.func7, Try.ntmps7
  go_wp2
  go_ret2
  exact ⟨rfl, rfl⟩
theorem pc_neg (x : Nat) (w : World) (o0 : FloatKind.f64.format.order x x = some .eq) (o1 : FloatKind.f64.format.order x 0 = some .lt) :
    Calls Try.prog 7 #[.float .f64 x] w fun e w' => e = .returned (.tuple #[.int .i64 0, .bool false]) ∧ w = w' := by
  go_enter Try.func7, Try.ntmps7
  go_wp2
  go_ret2
  exact ⟨rfl, rfl⟩
theorem pc_inf (x : Nat) (w : World) (o0 : FloatKind.f64.format.order x x = some .eq) (o1 : FloatKind.f64.format.order x 0 = some .gt) (o2 : FloatKind.f64.format.order x 9218868437227405311 = some .gt) :
    Calls Try.prog 7 #[.float .f64 x] w fun e w' => e = .returned (.tuple #[.int .i64 0, .bool false]) ∧ w = w' := by
  go_enter Try.func7, Try.ntmps7
  go_wp2_with (go_at_call 16; refine (isinf_yes x _ o2).mono ?_; rintro e w' ⟨rfl, rfl⟩)
  go_ret2
  exact ⟨rfl, rfl⟩
theorem pc_in (x m r : Nat) (n : Int) (w : World) (o0 : FloatKind.f64.format.order x x = some .eq) (o1 : FloatKind.f64.format.order x 0 = some .gt ∨ FloatKind.f64.format.order x 0 = some .eq)
    (o2 : FloatKind.f64.format.order x 9218868437227405311 = some .lt ∨ FloatKind.f64.format.order x 9218868437227405311 = some .eq)
    (hmin : ∀ ts t w, (Builtin.min_ ts t #[.float .f64 x, .float .f64 4666723172467343360]).run Try.prog w = .ok (.float .f64 m) w)
    (hf : floorBits m = some r) (hn : floatToIntVal .f64 r .i64 = some n) :
    Calls Try.prog 7 #[.float .f64 x] w fun e w' => e = .returned (.tuple #[.int .i64 n, .bool true]) ∧ w = w' := by
  have hconv := fun w => run_convert_float_int (P := Try.prog) w 22 3 .f64 .i64 r n (by kernel_rfl) Try.underlying3 hn
  rcases o1 with o1 | o1
  all_goals
    go_enter Try.func7, Try.ntmps7
    go_wp2_with (first | (go_at_call 16; refine (isinf_no x _ o2).mono ?_; rintro e w' ⟨rfl, rfl⟩) | (go_at_call 17; refine (floor_any m r hf _).mono ?_; rintro e w' ⟨rfl, rfl⟩))
    go_ret2
    exact ⟨rfl, rfl⟩

theorem rp_nan (x : Nat) (w : World) (o0 : FloatKind.f64.format.order x x = none) :
    Calls Try.prog 12 #[.float .f64 x] w fun e w' => e = .returned (.tuple #[.int .i64 100, .bool true]) ∧ Dn w w' := by
  go_enter Try.func12, Try.ntmps12
  go_wp2
  go_ret2
  exact ⟨rfl, 0, rfl⟩
theorem rp_neg (x : Nat) (w : World) (o0 : FloatKind.f64.format.order x x = some .eq) (o1 : FloatKind.f64.format.order x 0 = some .lt) :
    Calls Try.prog 12 #[.float .f64 x] w fun e w' => e = .returned (.tuple #[.int .i64 0, .bool false]) ∧ Dn w w' := by
  go_enter Try.func12, Try.ntmps12
  go_wp2
  go_ret2
  exact ⟨rfl, 0, rfl⟩
theorem rp_inf (x : Nat) (w : World) (o0 : FloatKind.f64.format.order x x = some .eq) (o1 : FloatKind.f64.format.order x 0 = some .gt) (hs : floatBits .sub .f64 x x = none) :
    Calls Try.prog 12 #[.float .f64 x] w fun e w' => e = .returned (.tuple #[.int .i64 0, .bool false]) ∧ Dn w w' := by
  have hsub := run_sub_nan x x hs 22
  have hno := nanW_order w x x 0
  go_enter Try.func12, Try.ntmps12
  go_wp2
  go_ret2
  exact ⟨rfl, 1, rfl⟩
theorem rp_big (x d : Nat) (w : World) (o0 : FloatKind.f64.format.order x x = some .eq) (o1 : FloatKind.f64.format.order x 0 = some .gt) (hs : floatBits .sub .f64 x x = some d) (hd : FloatKind.f64.format.order d 0 = some .eq)
    (o3 : FloatKind.f64.format.order x 4666723172467343360 = some .gt ∨ FloatKind.f64.format.order x 4666723172467343360 = some .eq) :
    Calls Try.prog 12 #[.float .f64 x] w fun e w' => e = .returned (.tuple #[.int .i64 10000, .bool true]) ∧ Dn w w' := by
  have hsub := fun w => run_float_arith (P := Try.prog) w .sub 22 .f64 x x d hs
  rcases o3 with o3 | o3
  all_goals
    go_enter Try.func12, Try.ntmps12
    go_wp2
    go_ret2
    exact ⟨rfl, 0, rfl⟩
theorem rp_in (x d : Nat) (n : Int) (w : World) (o0 : FloatKind.f64.format.order x x = some .eq) (o1 : FloatKind.f64.format.order x 0 = some .gt ∨ FloatKind.f64.format.order x 0 = some .eq) (hs : floatBits .sub .f64 x x = some d) (hd : FloatKind.f64.format.order d 0 = some .eq)
    (o3 : FloatKind.f64.format.order x 4666723172467343360 = some .lt) (hn : floatToIntVal .f64 x .i64 = some n) :
    Calls Try.prog 12 #[.float .f64 x] w fun e w' => e = .returned (.tuple #[.int .i64 n, .bool true]) ∧ Dn w w' := by
  have hsub := fun w => run_float_arith (P := Try.prog) w .sub 22 .f64 x x d hs
  have hconv := fun w => run_convert_float_int (P := Try.prog) w 22 3 .f64 .i64 x n (by kernel_rfl) Try.underlying3 hn
  rcases o1 with o1 | o1
  all_goals
    go_enter Try.func12, Try.ntmps12
    go_wp2
    go_ret2
    exact ⟨rfl, 0, rfl⟩

end Go.Proofs.Ytlandgfmdhcjmaa
