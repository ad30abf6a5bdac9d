/- Doubles: the facts that package fix's float walks ask for. -/
import Derived.Test.YtlandgfmdhcjmaaFltOps
import Derived.Test.YtlandgfmdhcjmaaFlo
namespace Go.Proofs.Ytlandgfmdhcjmaa
open Ieee Go.RowKit
set_option linter.unusedVariables false

theorem read_cases (x : Nat) : (∃ s f, double.read x = .nan s f) ∨ (∃ s, double.read x = .infinity s) ∨ ∃ V, HasV x V := by
  by_cases h1 : x % 9223372036854775808 < 4503599627370496
  · right; right
    refine ⟨_, ⟨(x / 9223372036854775808 % 2 == 1), x % 9223372036854775808, -1074, ?_, by omega, by omega, rfl⟩⟩
    unfold Format.read
    simp only [db_sw, db_bin, db_inf, db_least]
    rw [if_pos h1]
  · by_cases h2 : x % 9223372036854775808 < 9218868437227405312
    · right; right
      refine ⟨_, ⟨(x / 9223372036854775808 % 2 == 1), 4503599627370496 + x % 9223372036854775808 % 4503599627370496, -1074 + (x % 9223372036854775808 / 4503599627370496 - 1 : Nat), ?_, by omega, by omega, rfl⟩⟩
      unfold Format.read
      simp only [db_sw, db_bin, db_inf, db_least]
      rw [if_neg h1, if_pos h2]
    · by_cases h3 : x % 9223372036854775808 = 9218868437227405312
      · right; left
        refine ⟨(x / 9223372036854775808 % 2 == 1), ?_⟩
        unfold Format.read
        simp only [db_sw, db_bin, db_inf, db_least]
        rw [if_neg h1, if_neg h2, if_pos h3]
      · left
        refine ⟨(x / 9223372036854775808 % 2 == 1), x % 9223372036854775808 - 9218868437227405312, ?_⟩
        unfold Format.read
        simp only [db_sw, db_bin, db_inf, db_least]
        rw [if_neg h1, if_neg h2, if_neg h3]

theorem hi_val : HasV 4800837202776948736 (8796093022208 * T) := ⟨⟨false, 4503599627370496, -9, by decide +kernel, by omega, by omega, by decide +kernel⟩⟩
theorem lo_val : HasV 14024209239631724544 (-8796093022208 * T) := ⟨⟨true, 4503599627370496, -9, by decide +kernel, by omega, by omega, by decide +kernel⟩⟩

theorem not_nan_order {x : Nat} (h : ∀ s f, double.read x ≠ .nan s f) : double.order x x = some .eq := by
  unfold Format.order
  cases hd : double.read x with
  | nan s f => exact absurd hd (h s f)
  | infinity s => simp [Datum.order]
  | number s m i => simp [Datum.order]

theorem write_not_nan (d : Datum) (h : ∀ s f, d ≠ .nan s f) : ∀ s f, double.read (double.write d) ≠ .nan s f := by
  have key : ∀ (neg : Bool) (g : Nat), g ≤ 9218868437227405312 → ∀ s f, double.read (double.word neg g) ≠ .nan s f := by
    intro neg g hg s f
    unfold Format.read Format.word
    simp only [db_sw, db_bin, db_inf, db_least]
    have e2 : (if neg = true then 9223372036854775808 + g else g) % 9223372036854775808 = g := by
      cases neg <;> simp <;> omega
    rw [e2]
    by_cases h1 : g < 4503599627370496
    · rw [if_pos h1]; simp
    · by_cases h2 : g < 9218868437227405312
      · rw [if_neg h1, if_pos h2]; simp
      · rw [if_neg h1, if_neg h2, if_pos (by omega)]; simp
  cases d with
  | nan s f => exact absurd rfl (h s f)
  | infinity s => exact key s _ (by rw [db_inf]; omega)
  | number s m i =>
    unfold Format.write Format.nearest
    simp only [db_inf]
    by_cases h0 : m = 0
    · rw [if_pos h0]; exact key s 0 (by omega)
    · rw [if_neg h0]; exact key s _ (Nat.min_le_right _ _)

/-- A whole number's float by 2^20: a float, and none that is no number. -/
theorem real_some (a : Int) : ∃ r, floatBits .quo .f64 (floatOfInt .f64 a) 4697254411347427328 = some r ∧ double.order r r = some .eq := by
  have hd := write_not_nan (.number (a < 0) a.natAbs 0) (by intro s f h; cases h)
  obtain ⟨d, hdd⟩ : ∃ d, double.read (floatOfInt .f64 a) = d := ⟨_, rfl⟩
  have hd' : ∀ s f, d ≠ .nan s f := by
    intro s f h
    exact hd s f (hdd.trans h)
  have hq : ∃ d', d.quotient (double.fractionBits + 2) (.number false 4503599627370496 (-32)) = some d' ∧ ∀ s f, d' ≠ .nan s f := by
    cases d with
    | nan s f => exact absurd rfl (hd' s f)
    | infinity s => exact ⟨_, rfl, by intro s f h; cases h⟩
    | number s m i => exact ⟨_, rfl, by intro s f h; cases h⟩
  obtain ⟨d', h1, h2⟩ := hq
  refine ⟨double.write d', ?_, not_nan_order (write_not_nan d' h2)⟩
  show Format.div double _ _ = _
  unfold Format.div
  rw [hdd, one_read, h1]
  rfl

end Go.Proofs.Ytlandgfmdhcjmaa
