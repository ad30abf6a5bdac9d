/- Float and Real of package fix, by values. -/
import Derived.Test.YtlandgfmdhcjmaaFltBoth
namespace Go.Proofs.Ytlandgfmdhcjmaa
open Ieee Go.RowKit
set_option linter.unusedVariables false

/-- Real of a number below 2^53 in size: its value is exact. -/
theorem real_val (a : Int) (h : a.natAbs < 9007199254740992) : ∃ r V, HasV r V ∧ V * 1048576 = a * T ∧
    ∀ w, Calls Try.prog 11 #[.int .i64 a] w fun e w' => e = .returned (.float .f64 r) ∧ w = w' := by
  have h0 := ofInt_val a a.natAbs 0 (by simp) h (by omega)
  obtain ⟨B, hB, hT⟩ : ∃ B : Nat, B = 1074 ∧ T = 2 ^ B := ⟨1074, rfl, rfl⟩
  have hn : (a * T).natAbs = a.natAbs * 2 ^ B := by rw [Int.natAbs_mul, hT, Int.natAbs_pow]; rfl
  have hb : (a * T).natAbs < 2 ^ (53 + B) := by
    rw [hn, Nat.pow_add]
    exact Nat.mul_lt_mul_of_pos_right (by simpa using h) (Nat.two_pow_pos B)
  have hlo : a * T = 0 ∨ 2 ^ B ≤ (a * T).natAbs := by
    by_cases ha : a = 0
    · left; rw [ha, Int.zero_mul]
    · right
      rw [hn]
      exact Nat.le_mul_of_pos_left _ (by omega)
  obtain ⟨r, V, h1, h2, h3⟩ := div_val (by omega) h0 hb (by omega) hlo
  exact ⟨r, V, h2, h3, fun w => real_walk a r w h1⟩

/-- Float of a value below 2^43 in size. -/
theorem float_val {x : Nat} {V : Int} (h : HasV x V) (l : -8796093022208 * T < V) (l' : V < 8796093022208 * T) :
    ∀ w, Calls Try.prog 18 #[.float .f64 x] w fun e w' => e = .returned (.int .i64 (V * 1048576 / T)) ∧ w = w' := by
  have o0 : FloatKind.f64.format.order x x = some .eq := (order_val h h).trans (by rw [Int.compare_eq_eq.2 rfl])
  have q1 : FloatKind.f64.format.order x 4800837202776948736 = _ := order_val h hi_val
  have q2 : FloatKind.f64.format.order x 14024209239631724544 = _ := order_val h lo_val
  rw [Int.compare_eq_lt.2 l'] at q1
  rw [Int.compare_eq_gt.2 l] at q2
  obtain ⟨m, r, n, k, f1, f2, f3, f4, -⟩ := fix_facts h l l'
  intro w
  rw [← f4]
  exact float_walk x m r n w o0 q1 q2 f1 f2 f3

/-- A number's float comes back. -/
theorem float_real (a : Int) (h : a.natAbs < 9007199254740992) : ∃ r,
    (∀ w, Calls Try.prog 11 #[.int .i64 a] w fun e w' => e = .returned (.float .f64 r) ∧ w = w') ∧
    (∀ w, Calls Try.prog 18 #[.float .f64 r] w fun e w' => e = .returned (.int .i64 a) ∧ w = w') := by
  obtain ⟨r, V, h1, h2, h3⟩ := real_val a h
  have hp := T_pos
  have a1 : -9007199254740992 * T < a * T := Int.mul_lt_mul_of_pos_right (by omega) hp
  have a2 : a * T < 9007199254740992 * T := Int.mul_lt_mul_of_pos_right (by omega) hp
  refine ⟨r, h3, ?_⟩
  have := float_val h1 (by omega) (by omega)
  rw [h2, Int.mul_ediv_cancel _ (by omega)] at this
  exact this

/-- Below 2^32 in size: the number is no greater than the float, and one part more is beyond it. -/
theorem float_between {x : Nat} {V : Int} (h : HasV x V) (l : -4294967296 * T < V) (l' : V < 4294967296 * T) : ∃ (a : Int) (r r' : Nat), -4503599627370496 ≤ a ∧ a ≤ 4503599627370496 ∧
    (∀ w, Calls Try.prog 18 #[.float .f64 x] w fun e w' => e = .returned (.int .i64 a) ∧ w = w') ∧
    (∀ w, Calls Try.prog 11 #[.int .i64 a] w fun e w' => e = .returned (.float .f64 r) ∧ w = w') ∧
    (∀ w, Calls Try.prog 11 #[.int .i64 (a + 1)] w fun e w' => e = .returned (.float .f64 r') ∧ w = w') ∧
    (FloatKind.f64.format.order r x = some .lt ∨ FloatKind.f64.format.order r x = some .eq) ∧ FloatKind.f64.format.order x r' = some .lt := by
  have hp := T_pos
  obtain ⟨a, ha⟩ : ∃ a, V * 1048576 / T = a := ⟨_, rfl⟩
  have n1 : a * T ≤ V * 1048576 := by rw [← ha]; exact Int.ediv_mul_le _ (by omega)
  have n2 : V * 1048576 < (a + 1) * T := by rw [← ha]; exact Int.lt_ediv_add_one_mul_self _ hp
  have n3 : -4503599627370496 ≤ a := by rw [← ha]; exact Int.le_ediv_of_mul_le hp (by omega)
  have n4 : a < 4503599627370496 := by rw [← ha]; exact Int.ediv_lt_of_lt_mul hp (by omega)
  have hf := float_val h (by omega) (by omega)
  rw [ha] at hf
  obtain ⟨r, R, h1, h2, h3⟩ := real_val a (by omega)
  obtain ⟨r', R', k1, k2, k3⟩ := real_val (a + 1) (by omega)
  refine ⟨a, r, r', n3, by omega, hf, h3, k3, ?_, ?_⟩
  · have q : FloatKind.f64.format.order r x = _ := order_val h1 h
    rcases Int.lt_trichotomy R V with c | c | c
    · left; rw [q, Int.compare_eq_lt.2 c]
    · right; rw [q, Int.compare_eq_eq.2 c]
    · omega
  · have q : FloatKind.f64.format.order x r' = _ := order_val h k1
    rw [q, Int.compare_eq_lt.2 (by omega)]

end Go.Proofs.Ytlandgfmdhcjmaa
