/- What the law's own few examples come to. -/
import Derived.Test.YtdmoacihidligaaFlo
namespace Go.Proofs.Ytdmoacihidligaa
open Go.RowKit

theorem c_mul (w : World) : Calls Try.prog 22 #[.int .i64 1572864, .int .i64 524288] w fun e w' => e = .returned (.int .i64 786432) ∧ w = w' := by
  have h := fMul_any 1572864 524288 w (by omega) (by omega) (by omega) (by omega)
  rw [show fMul 1572864 524288 = 786432 from by decide] at h
  exact h
theorem c_float (w : World) : Calls Try.prog 18 #[.float .f64 13826050856027422720] w fun e w' => e = .returned (.int .i64 (-524288)) ∧ w = w' :=
  float_walk 13826050856027422720 13916122848574832640 13916122848574832640 (-524288) w (by decide +kernel) (by decide +kernel) (by decide +kernel) (by decide +kernel) (by decide +kernel) (by decide +kernel)
theorem c_add (w : World) : Calls Try.prog 23 #[.int .i64 9223372036854775807, .int .i64 1] w fun e w' => e = .returned (.int .i64 9223372036854775807) ∧ w = w' := by
  have h := fAdd_any 9223372036854775807 1 w (by omega) (by omega) (by omega) (by omega)
  rw [show fAdd 9223372036854775807 1 = 9223372036854775807 from by decide] at h
  exact h
theorem c_div (w : World) : Calls Try.prog 12 #[.int .i64 (-1), .int .i64 0] w fun e w' => e = .returned (.int .i64 (-9223372036854775808)) ∧ Dr w w' := by
  have h := fDiv_any (-1) 0 w (by omega) (by omega) (by omega) (by omega)
  rw [show fDiv (-1) 0 = -9223372036854775808 from by decide] at h
  exact h
theorem c_whole (w : World) : Calls Try.prog 14 #[.int .i64 2] w fun e w' => e = .returned (.int .i64 2097152) ∧ w = w' := by
  have h := fWhole_any 2 w (by omega) (by omega)
  rw [show fWhole 2 = 2097152 from by decide] at h
  exact h
theorem c_int (w : World) : Calls Try.prog 16 #[.int .i64 (-1)] w fun e w' => e = .returned (.int .i64 (-1)) ∧ w = w' := by
  have h := fInt_any (-1) w
  rw [show fInt (-1) = -1 from by decide] at h
  exact h
theorem c_real (w : World) : Calls Try.prog 20 #[.int .i64 1048576] w fun e w' => e = .returned (.float .f64 4607182418800017408) ∧ w = w' :=
  real_walk 1048576 4607182418800017408 w (by decide +kernel)

theorem f_one : (FloatKind.f64.format.order 4607182418800017408 4607182418800017408 == some Ordering.eq) = true := by decide +kernel

set_option maxHeartbeats 400000 in
theorem told_any (w : World) : Calls Try.prog 13 #[] w fun e w' => e = .returned (.bool true) ∧ Dr w w' := by
  have ho := f_one
  go_enter Try.func13, Try.ntmps13
  go_wp2_with fail
  refine (c_mul _).mono ?_
  rintro e w' ⟨rfl, rfl⟩
  go_wp2_with fail
  refine (c_float _).mono ?_
  rintro e w' ⟨rfl, rfl⟩
  go_wp2_with fail
  refine (c_add _).mono ?_
  rintro e w' ⟨rfl, rfl⟩
  go_wp2_with fail
  refine (c_div _).mono ?_
  rintro e w1 ⟨rfl, hw⟩
  have Hw := Lib.hid hw
  clear hw
  go_wp2_with fail
  refine (c_whole _).mono ?_
  rintro e w' ⟨rfl, rfl⟩
  go_wp2_with fail
  refine (c_int _).mono ?_
  rintro e w' ⟨rfl, rfl⟩
  go_wp2_with fail
  refine (c_real _).mono ?_
  rintro e w' ⟨rfl, rfl⟩
  go_wp2_with fail
  go_ret
  exact ⟨rfl, Hw.out⟩

theorem Dr.grown {w w' : World} (h : Dr w w') : Grown w w' := by
  obtain ⟨n, rfl⟩ := h
  exact ⟨(World.keptBut_refl w _).alike (World.drewN_alike _ _), fun _ => rfl, Nat.le_refl _⟩

end Go.Proofs.Ytdmoacihidligaa
