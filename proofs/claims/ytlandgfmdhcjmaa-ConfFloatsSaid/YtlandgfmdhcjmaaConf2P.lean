/- Package conf: what a float comes to, by values; plain facts. -/
import Derived.Test.YtlandgfmdhcjmaaFltVals
namespace Go.Proofs.Ytlandgfmdhcjmaa
open Ieee Go.RowKit
set_option linter.unusedVariables false

theorem v_zero : HasV 0 0 := ⟨⟨false, 0, -1074, by decide +kernel, by omega, by omega, by decide +kernel⟩⟩
theorem v_10000 : HasV 4666723172467343360 (10000 * T) := ⟨⟨false, 5497558138880000, -39, by decide +kernel, by omega, by omega, by decide +kernel⟩⟩
theorem v_one : HasV 4607182418800017408 T := ⟨⟨false, 4503599627370496, -52, by decide +kernel, by omega, by omega, by decide +kernel⟩⟩
theorem v_64th : ∃ Q, HasV 4580160821035794432 Q ∧ Q * 64 = T := ⟨2 ^ 1068, ⟨⟨false, 4503599627370496, -58, by decide +kernel, by omega, by omega, by decide +kernel⟩⟩, by decide +kernel⟩

theorem inf_order {x y : Nat} {s : Bool} {V : Int} (h : double.read x = .infinity s) (hy : HasV y V) : FloatKind.f64.format.order x y = some (if s then .lt else .gt) := by
  obtain ⟨a, b, c, ha, -⟩ := hy.ex
  show double.order _ _ = _
  unfold Format.order; rw [h, ha]; rfl
theorem order_inf {x y : Nat} {s : Bool} {V : Int} (h : double.read y = .infinity s) (hx : HasV x V) : FloatKind.f64.format.order x y = some (if s then .gt else .lt) := by
  obtain ⟨a, b, c, ha, -⟩ := hx.ex
  show double.order _ _ = _
  unfold Format.order; rw [h, ha]; rfl
theorem nan_order {x y : Nat} {s : Bool} {f : Nat} (h : double.read x = .nan s f) : FloatKind.f64.format.order x y = none := by
  show double.order _ _ = _
  unfold Format.order; rw [h]; rfl
theorem order_nan {x y : Nat} {s : Bool} {f : Nat} (h : double.read y = .nan s f) : FloatKind.f64.format.order x y = none := by
  show double.order _ _ = _
  unfold Format.order; rw [h]
  cases double.read x <;> rfl
theorem nan_of_order {x : Nat} (h : FloatKind.f64.format.order x x = none) : ∃ s f, double.read x = .nan s f := by
  rcases read_cases x with h1 | ⟨s, h1⟩ | ⟨V, h1⟩
  · exact h1
  · have := not_nan_order (x := x) (by intro a b k; rw [h1] at k; cases k)
    rw [show FloatKind.f64.format.order x x = double.order x x from rfl, this] at h; cases h
  · rw [show FloatKind.f64.format.order x x = double.order x x from rfl, order_val h1 h1] at h; cases h

/-- No number is above the greatest. -/
theorem fin_le {x : Nat} {V : Int} (h : HasV x V) : FloatKind.f64.format.order x 9218868437227405311 = some .lt ∨ FloatKind.f64.format.order x 9218868437227405311 = some .eq := by
  obtain ⟨K, hK⟩ : ∃ K : Nat, K = 2045 := ⟨_, rfl⟩
  have hm : HasV 9218868437227405311 (9007199254740991 * 2 ^ K) := ⟨⟨false, 9007199254740991, 971, by decide +kernel, by omega, by omega, by rw [hK]; rfl⟩⟩
  have hq : FloatKind.f64.format.order x 9218868437227405311 = _ := order_val h hm
  obtain ⟨s, m, i, h1, h2, h3, rfl⟩ := h.ex
  have hi : i ≤ 971 := by
    unfold Format.read at h1
    simp only [db_sw, db_bin, db_inf, db_least] at h1
    by_cases c1 : x % 9223372036854775808 < 4503599627370496
    · rw [if_pos c1] at h1; cases h1; omega
    · by_cases c2 : x % 9223372036854775808 < 9218868437227405312
      · rw [if_neg c1, if_pos c2] at h1; cases h1; omega
      · by_cases c3 : x % 9223372036854775808 = 9218868437227405312
        · rw [if_neg c1, if_neg c2, if_pos c3] at h1; cases h1
        · rw [if_neg c1, if_neg c2, if_neg c3] at h1; cases h1
  have hle : sgn s m * 2 ^ (i + 1074).toNat ≤ 9007199254740991 * 2 ^ K := by
    have hs : sgn s m ≤ 9007199254740991 := by cases s <;> simp [sgn] <;> omega
    have h0 : (0 : Int) < 2 ^ (i + 1074).toNat := Int.pow_pos (by omega)
    have hp : (2 : Int) ^ (i + 1074).toNat ≤ 2 ^ K := by
      have : (2 : Nat) ^ (i + 1074).toNat ≤ 2 ^ K := Nat.pow_le_pow_right (by omega) (by omega)
      have e : ∀ u : Nat, ((2 ^ u : Nat) : Int) = 2 ^ u := fun u => Int.natCast_pow 2 u
      rw [← e, ← e]
      exact Int.ofNat_le.2 this
    calc sgn s m * 2 ^ (i + 1074).toNat ≤ 9007199254740991 * 2 ^ (i + 1074).toNat := Int.mul_le_mul_of_nonneg_right hs (by omega)
      _ ≤ _ := Int.mul_le_mul_of_nonneg_left hp (by omega)
  rw [hq]
  rcases Int.lt_or_eq_of_le hle with h | h
  · left; rw [Int.compare_eq_lt.2 h]
  · right; rw [Int.compare_eq_eq.2 h]

/-- What Percent's road gives of a value. -/
theorem pct_facts {m : Nat} {V : Int} (h : HasV m V) (h0 : 0 ≤ V) (h1 : V ≤ 10000 * T) : ∃ r, floorBits m = some r ∧ floatToIntVal .f64 r .i64 = some (V / T) ∧ floatToIntVal .f64 m .i64 = some (V / T) ∧ 0 ≤ V / T ∧ V / T ≤ 10000 := by
  obtain ⟨E, hE, hv, -⟩ := lim_bd (V := V) (by have := T_pos; omega) (by have := T_pos; omega)
  have hp := T_pos
  obtain ⟨⟨s, g, i, hr⟩, hfl⟩ := floor_val (E := E) (by omega) h hv
  have b0 : 0 ≤ V / T := Int.ediv_nonneg h0 (by omega)
  have b1 : V / T ≤ 10000 := by
    have : V / T < 10001 := Int.ediv_lt_of_lt_mul hp (by omega)
    omega
  have c0 : -9223372036854775808 ≤ V / T := by omega
  have c1 : V / T ≤ 9223372036854775807 := by omega
  refine ⟨double.write ((double.read m).integral .down), ?_, ?_, ?_, b0, b1⟩
  · unfold floorBits FloatKind.decode FloatKind.encode FloatKind.format
    simp only [hr]
  · unfold floatToIntVal FloatKind.decode FloatKind.format
    simp only
    rw [int_val hfl, Int.mul_tdiv_cancel _ (by omega)]
    simp only
    rw [if_pos (by constructor <;> simpa [IntKind.min, IntKind.max] using (by first | exact c0 | exact c1))]
  · unfold floatToIntVal FloatKind.decode FloatKind.format
    simp only
    rw [int_val h, Int.tdiv_eq_ediv_of_nonneg h0]
    simp only
    rw [if_pos (by constructor <;> simpa [IntKind.min, IntKind.max] using (by first | exact c0 | exact c1))]

/-- The lesser one of a value and 10000. -/
theorem min_val {x : Nat} {V : Int} (h : HasV x V) : ∃ m, HasV m (min V (10000 * T)) ∧ ∀ ts t w, (Builtin.min_ ts t #[.float .f64 x, .float .f64 4666723172467343360]).run Try.prog w = .ok (.float .f64 m) w := by
  have q : FloatKind.f64.format.order x 4666723172467343360 = _ := order_val h v_10000
  rcases Int.lt_trichotomy V (10000 * T) with c | c | c
  · rw [Int.compare_eq_lt.2 c] at q
    refine ⟨x, by rw [Int.min_eq_left (by omega)]; exact h, fun ts t w => ?_⟩
    simp [Builtin.min_, Builtin.min2, q]
  · rw [Int.compare_eq_eq.2 c] at q
    by_cases hn : (FloatKind.f64.decode x).neg = true
    · refine ⟨x, by rw [Int.min_eq_left (by omega)]; exact h, fun ts t w => ?_⟩
      simp [Builtin.min_, Builtin.min2, q, hn]
    · refine ⟨_, by rw [Int.min_eq_right (by omega)]; exact v_10000, fun ts t w => ?_⟩
      simp [Builtin.min_, Builtin.min2, q, hn]
  · rw [Int.compare_eq_gt.2 c] at q
    refine ⟨_, by rw [Int.min_eq_right (by omega)]; exact v_10000, fun ts t w => ?_⟩
    simp [Builtin.min_, Builtin.min2, q]

/-- What the model draws for an operation that is not valid. -/
def nanW (w : World) (x y : Nat) : Nat := (Question.nanBits .f64 x y).cut (w.tape w.drawn (.nanBits .f64 x y))
theorem nanW_order (w : World) (x y z : Nat) : FloatKind.f64.format.order (nanW w x y) z = none := by
  have hb : 9218868437227405312 < nanW w x y % 9223372036854775808 := by
    unfold nanW Question.cut
    simp only
    obtain ⟨t, ht⟩ : ∃ t, w.tape w.drawn (Question.nanBits FloatKind.f64 x y) = t := ⟨_, rfl⟩
    rw [ht, show (2 : Nat) ^ 63 = 9223372036854775808 from by decide, show (2 : Nat) ^ 52 - 1 = 4503599627370495 from by decide]
    obtain ⟨a, ha⟩ : ∃ a, t % 2 = a := ⟨_, rfl⟩
    obtain ⟨b, hb⟩ : ∃ b, t / 2 % 4503599627370495 = b := ⟨_, rfl⟩
    have hb' : b < 4503599627370495 := by rw [← hb]; exact Nat.mod_lt _ (by omega)
    rw [ha, hb]
    clear ht ha hb
    rw [show 0x7ff0000000000000 = 9218868437227405312 from rfl, Nat.add_assoc, Nat.add_assoc, Nat.mul_add_mod_self_right, Nat.mod_eq_of_lt (by omega)]
    omega
  obtain ⟨b, hn⟩ : ∃ b, nanW w x y = b := ⟨_, rfl⟩
  rw [hn] at hb ⊢
  refine nan_order (s := (b / 9223372036854775808 % 2 == 1)) (f := b % 9223372036854775808 - 9218868437227405312) ?_
  unfold Format.read
  simp only [db_sw, db_bin, db_inf, db_least]
  rw [if_neg (by omega), if_neg (by omega), if_neg (by omega)]

theorem run_sub_nan (x y : Nat) (h : floatBits .sub .f64 x y = none) (t : TypeId) (w : World) : (binOp .sub t (.float .f64 x) (.float .f64 y)).run Try.prog w = .ok (.float .f64 (nanW w x y)) w.drew := by
  unfold floatBits at h
  simp only at h
  simp [binOp, Op.floatArith, h, nanW, Question.forced]

end Go.Proofs.Ytlandgfmdhcjmaa
