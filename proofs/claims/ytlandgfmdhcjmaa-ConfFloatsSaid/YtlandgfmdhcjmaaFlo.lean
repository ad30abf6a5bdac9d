/- Floats of package fix: the walks, over what the operations give. -/
import Derived.Test.YtlandgfmdhcjmaaBase
namespace Go.Proofs.Ytlandgfmdhcjmaa
open Go.RowKit
set_option linter.unusedVariables false

/-- The greatest whole number that is not above a float, as a float: of what is no NaN. -/
def floorBits (x : Nat) : Option Nat :=
  match FloatKind.f64.decode x with
  | .nan _ _ => none
  | d => some (FloatKind.f64.encode (d.integral .down))

theorem arch_inf (x : Nat) (s : Bool) (hd : FloatKind.f64.decode x = Ieee.Datum.infinity s) :
    Extern.MathFloor.toIntegral "math.archFloor" .down #[.float .f64 x] = pure (.float .f64 (FloatKind.f64.encode ((Ieee.Datum.infinity s).integral .down))) := by
  conv => lhs; whnf
  rw [hd]

theorem arch_num (x : Nat) (s : Bool) (m : Nat) (i : Int) (hd : FloatKind.f64.decode x = Ieee.Datum.number s m i) :
    Extern.MathFloor.toIntegral "math.archFloor" .down #[.float .f64 x] = pure (.float .f64 (FloatKind.f64.encode ((Ieee.Datum.number s m i).integral .down))) := by
  conv => lhs; whnf
  rw [hd]

theorem arch_run (x r : Nat) (h : floorBits x = some r) (w : World) : (callFunc 21 #[.float .f64 x]).run Try.prog w = .ok (.value (.float .f64 r)) w := by
  rw [run_callFunc_extern Try.func21 (by kernel_rfl) (by kernel_rfl) (by kernel_rfl) (e := Extern.MathFloor.toIntegral "math.archFloor" .down) (by kernel_rfl)]
  unfold floorBits at h
  cases hd : FloatKind.f64.decode x with
  | nan s t => rw [hd] at h; cases h
  | infinity s =>
    rw [hd] at h
    simp only [Option.some.injEq] at h
    subst h
    rw [arch_inf x s hd]
    rfl
  | number s m i =>
    rw [hd] at h
    simp only [Option.some.injEq] at h
    subst h
    rw [arch_num x s m i hd]
    rfl

theorem floor_any (x r : Nat) (h : floorBits x = some r) (w : World) :
    Calls Try.prog 17 #[.float .f64 x] w fun e w' => e = .returned (.float .f64 r) ∧ w = w' := by
  have ha := arch_run x r h
  go_enter Try.func17, Try.ntmps17
  go_wp2
  go_ret
  exact ⟨rfl, rfl⟩

set_option maxHeartbeats 400000 in
theorem float_walk (x m r : Nat) (n : Int) (w : World) (o0 : FloatKind.f64.format.order x x = some .eq) (o1 : FloatKind.f64.format.order x 4800837202776948736 = some .lt) (o2 : FloatKind.f64.format.order x 14024209239631724544 = some .gt)
    (hm : floatBits .mul .f64 x 4697254411347427328 = some m) (hf : floorBits m = some r) (hn : floatToIntVal .f64 r .i64 = some n) :
    Calls Try.prog 18 #[.float .f64 x] w fun e w' => e = .returned (.int .i64 n) ∧ w = w' := by
  have hmul := fun w => run_float_arith (P := Try.prog) w .mul 22 .f64 x _ m hm
  have hconv := fun w => run_convert_float_int (P := Try.prog) w 22 2 .f64 .i64 r n (by kernel_rfl) Try.underlying2 hn
  go_enter Try.func18, Try.ntmps18
  go_wp2_with (go_at_call 17; refine (floor_any m r hf _).mono ?_; rintro e w' ⟨rfl, rfl⟩)
  go_ret
  exact ⟨rfl, rfl⟩

set_option maxHeartbeats 400000 in
theorem real_walk (a : Int) (r : Nat) (w : World) (hr : floatBits .quo .f64 (floatOfInt .f64 a) 4697254411347427328 = some r) :
    Calls Try.prog 11 #[.int .i64 a] w fun e w' => e = .returned (.float .f64 r) ∧ w = w' := by
  have hquo := fun w => run_float_arith (P := Try.prog) w .quo 22 .f64 (floatOfInt .f64 a) _ r hr
  go_enter Try.func11, Try.ntmps11
  go_wp2
  go_ret
  exact ⟨rfl, rfl⟩

end Go.Proofs.Ytlandgfmdhcjmaa
