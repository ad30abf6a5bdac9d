/- FixWholes: whole numbers are added, taken away, multiplied and divided as whole numbers are: for every two numbers. -/
import Derived.Test.YtdmoacihidligaaTold1
import Derived.Test.YtdmoacihidligaaFltVals
namespace Go.Proofs.Ytdmoacihidligaa
open Ieee Go.RowKit
set_option linter.unusedVariables false

theorem rm20 (a : Int) : -1048576 < a.tmod 1048576 ∧ a.tmod 1048576 < 1048576 :=
  ⟨by have := Int.lt_tmod_of_pos a (b := 1048576) (by omega); omega, Int.tmod_lt_of_pos a (by omega)⟩

/-- A whole number's float is its fixed-point number's. -/
theorem whole_float (x : Int) (h1 : -1048576 < x) (h2 : x < 1048576) : ∃ r, FloatKind.f64.format.order r (floatOfInt .f64 x) = some .eq ∧
    (∀ w, Calls Try.prog 20 #[.int .i64 (x * 1048576)] w fun e w' => e = .returned (.float .f64 r) ∧ w = w') ∧
    (∀ w, Calls Try.prog 18 #[.float .f64 (floatOfInt .f64 x)] w fun e w' => e = .returned (.int .i64 (x * 1048576)) ∧ w = w') := by
  have hp := T_pos
  have h0 := ofInt_val x x.natAbs 0 (by simp) (by omega) (by omega)
  obtain ⟨r, V, k1, k2, k3⟩ := real_val (x * 1048576) (by omega)
  have e : V = x * T := by
    have : V * 1048576 = x * T * 1048576 := by rw [k2, Int.mul_right_comm]
    omega
  have b1 : -1048576 * T < x * T := Int.mul_lt_mul_of_pos_right h1 hp
  have b2 : x * T < 1048576 * T := Int.mul_lt_mul_of_pos_right h2 hp
  refine ⟨r, ?_, k3, ?_⟩
  · rw [e] at k1
    exact (order_val k1 h0).trans (by rw [Int.compare_eq_eq.2 rfl])
  · have := float_val h0 (by omega) (by omega)
    rw [Int.mul_right_comm, Int.mul_ediv_cancel _ (by omega)] at this
    exact this

theorem prod_bd {x y : Int} (x1 : -1048576 < x) (x2 : x < 1048576) (y1 : -1048576 < y) (y2 : y < 1048576) : -1099511627776 < x * y ∧ x * y < 1099511627776 := by
  have h : (x * y).natAbs < 1099511627776 := by
    rw [Int.natAbs_mul]
    have a : x.natAbs ≤ 1048575 := by omega
    have b : y.natAbs ≤ 1048575 := by omega
    exact Nat.lt_of_le_of_lt (Nat.mul_le_mul a b) (by decide)
  omega

theorem whole_in {x : Int} (h1 : -1099511627776 < x) (h2 : x < 1099511627776) : fWhole x = x * 1048576 := clamp_in (by omega) (by omega)

theorem wholes_plain {x y : Int} (x1 : -1048576 < x) (x2 : x < 1048576) (y1 : -1048576 < y) (y2 : y < 1048576) :
    fAdd (x * 1048576) (y * 1048576) = (x + y) * 1048576 ∧ fSub (x * 1048576) (y * 1048576) = (x - y) * 1048576 ∧ fMul (x * 1048576) (y * 1048576) = x * y * 1048576 ∧ fInt (x * y * 1048576) = x * y := by
  obtain ⟨p1, p2⟩ := prod_bd x1 x2 y1 y2
  have e : x * 1048576 * (y * 1048576) / 1048576 = x * y * 1048576 := by
    rw [show x * 1048576 * (y * 1048576) = x * y * 1048576 * 1048576 by rw [Int.mul_assoc, Int.mul_left_comm 1048576 y, ← Int.mul_assoc, ← Int.mul_assoc]]
    exact Int.mul_ediv_cancel _ (by omega)
  refine ⟨?_, ?_, ?_, ?_⟩
  · unfold fAdd; rw [clamp_in (by omega) (by omega)]; omega
  · unfold fSub; rw [clamp_in (by omega) (by omega)]; omega
  · unfold fMul; rw [e]; exact clamp_in (by omega) (by omega)
  · unfold fInt; exact Int.mul_ediv_cancel _ (by omega)

theorem div_plain {x y : Int} (x1 : -1048576 < x) (x2 : x < 1048576) (y0 : y ≠ 0) (h : x.tmod y = 0) : fDiv (x * 1048576) (y * 1048576) = x.tdiv y * 1048576 := by
  obtain ⟨q, hq⟩ : ∃ q, x.tdiv y = q := ⟨_, rfl⟩
  have e : x = y * q := by
    have := Int.mul_tdiv_add_tmod x y
    rw [hq, h] at this; omega
  rw [hq]
  have qb : q.natAbs ≤ x.natAbs := by
    rw [e, Int.natAbs_mul]; exact Nat.le_mul_of_pos_left _ (by omega)
  have e2 : x * 1048576 * 1048576 = y * 1048576 * (q * 1048576) := by
    rw [e, Int.mul_assoc y, Int.mul_assoc y, Int.mul_assoc y, Int.mul_comm q 1048576, Int.mul_assoc 1048576 q, Int.mul_comm q 1048576]
  have hd : y * 1048576 ≠ 0 := by omega
  unfold fDiv
  rw [if_neg hd, e2]
  have e3 : floorDiv (y * 1048576 * (q * 1048576)) (y * 1048576) = q * 1048576 := by
    by_cases hp : 0 < y * 1048576
    · rw [floorDiv_pos hp, Int.mul_ediv_cancel_left _ hd]
    · rw [floorDiv_neg hp, ← Int.neg_mul, Int.mul_ediv_cancel_left _ (by omega)]
  rw [e3]
  exact clamp_in (by omega) (by omega)

end Go.Proofs.Ytdmoacihidligaa
