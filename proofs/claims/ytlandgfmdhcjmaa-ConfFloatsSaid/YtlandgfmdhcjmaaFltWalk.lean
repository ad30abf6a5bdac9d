/- Package fix's floats, and the document's: contracts. -/
import Derived.Test.YtlandgfmdhcjmaaFltFix
namespace Go.Proofs.Ytlandgfmdhcjmaa
open Ieee Go.RowKit
set_option linter.unusedVariables false

theorem lim_bd {V : Int} (h1 : -8796093022208 * T < V) (h2 : V < 8796093022208 * T) : ∃ E : Nat, E ≤ 1200 ∧ V.natAbs < 2 ^ E ∧ (V * 1048576).natAbs < 2 ^ (E + 20) := by
  obtain ⟨B, hB, hT⟩ : ∃ B : Nat, B = 1074 ∧ T = 2 ^ B := ⟨1074, rfl, rfl⟩
  have hTn : T.natAbs = 2 ^ B := by rw [hT, Int.natAbs_pow]; rfl
  have hp := T_pos
  have hv : V.natAbs < 2 ^ (43 + B) := by
    rw [Nat.pow_add, ← hTn, show (2 : Nat) ^ 43 = 8796093022208 from by decide]
    omega
  refine ⟨43 + B, by omega, hv, ?_⟩
  rw [Int.natAbs_mul, Nat.pow_add _ _ 20]
  have : (1048576 : Int).natAbs = 2 ^ 20 := by decide
  rw [this]
  exact Nat.mul_lt_mul_of_pos_right hv (by decide)

theorem fix_facts {x : Nat} {V : Int} (h : HasV x V) (h1 : -8796093022208 * T < V) (h2 : V < 8796093022208 * T) :
    ∃ m r n k, floatBits .mul .f64 x 4697254411347427328 = some m ∧ floorBits m = some r ∧ floatToIntVal .f64 r .i64 = some n ∧ n = V * 1048576 / T ∧ HasV m (V * 1048576) ∧ HasV r (n * T) ∧
      floatToIntVal .f64 m .i64 = some k ∧ ((double.order (floatOfInt .f64 k) m = some .gt ∧ k - 1 = n) ∨ (double.order (floatOfInt .f64 k) m ≠ some .gt ∧ k = n)) ∧ -9223372036854775808 ≤ n ∧ n ≤ 9223372036854775807 ∧ -9223372036854775808 ≤ k ∧ k ≤ 9223372036854775807 := by
  obtain ⟨E, hE, hv, hv'⟩ := lim_bd h1 h2
  have hp := T_pos
  obtain ⟨m, hm, hmV⟩ := mul_val (by omega) h hv
  obtain ⟨⟨s, g, i, hr⟩, hfl⟩ := floor_val (E := E + 20) (by omega) hmV hv'
  have y1 : -9223372036854775808 * T < V * 1048576 := by omega
  have y2 : V * 1048576 < 9223372036854775808 * T := by omega
  obtain ⟨Y, hY⟩ : ∃ Y, V * 1048576 = Y := ⟨_, rfl⟩
  rw [hY] at hmV hfl hv' y1 y2 ⊢
  obtain ⟨n, hn⟩ : ∃ n, Y / T = n := ⟨_, rfl⟩
  have n1 : n * T ≤ Y := by rw [← hn]; exact Int.ediv_mul_le _ (by omega)
  have n2 : Y < (n + 1) * T := by rw [← hn]; exact Int.lt_ediv_add_one_mul_self _ hp
  have n3 : -9223372036854775808 ≤ n := by rw [← hn]; exact Int.le_ediv_of_mul_le hp (by omega)
  have n4 : n ≤ 9223372036854775807 := by
    have : n < 9223372036854775808 := by rw [← hn]; exact Int.ediv_lt_of_lt_mul hp y2
    omega
  obtain ⟨k, hk⟩ : ∃ k, Y.tdiv T = k := ⟨_, rfl⟩
  have kk : (0 ≤ Y ∧ k = n) ∨ (Y < 0 ∧ ((k * T = Y ∧ k = n) ∨ (Y < k * T ∧ k = n + 1 ∧ k ≤ 0))) := by
    by_cases y0 : 0 ≤ Y
    · left
      exact ⟨y0, by rw [← hk, ← hn, Int.tdiv_eq_ediv_of_nonneg y0]⟩
    · right
      refine ⟨by omega, ?_⟩
      have ht := Int.tdiv_eq_ediv (a := Y) (b := T)
      rw [hk, hn] at ht
      by_cases hd : T ∣ Y
      · left
        rw [if_pos (.inr hd)] at ht
        have e1 : k = n := by omega
        exact ⟨by rw [← hk]; exact Int.tdiv_mul_cancel hd, e1⟩
      · right
        rw [if_neg (fun hc => hc.elim y0 hd), Int.sign_eq_one_of_pos hp] at ht
        refine ⟨by rw [ht]; exact n2, ht, ?_⟩
        have : n < 0 := by rw [← hn]; exact Int.ediv_neg_of_neg_of_pos (by omega) hp
        omega
  have kb : -9223372036854775808 ≤ k ∧ k ≤ 9223372036854775807 := by omega
  have hrd : floorBits m = some (double.write ((double.read m).integral .down)) := by
    unfold floorBits FloatKind.decode FloatKind.encode FloatKind.format
    simp only [hr]
  have hti : floatToIntVal .f64 (double.write ((double.read m).integral .down)) .i64 = some n := by
    unfold floatToIntVal FloatKind.decode FloatKind.format
    simp only
    rw [int_val hfl, hn, Int.mul_tdiv_cancel _ (by omega)]
    simp only
    rw [if_pos (by constructor <;> simpa [IntKind.min, IntKind.max] using (by assumption))]
  have htk : floatToIntVal .f64 m .i64 = some k := by
    unfold floatToIntVal FloatKind.decode FloatKind.format
    simp only
    rw [int_val hmV, hk]
    simp only
    rw [if_pos (by constructor <;> simpa [IntKind.min, IntKind.max] using (by first | exact kb.1 | exact kb.2))]
  rw [hn] at hfl
  refine ⟨m, _, n, k, hm, hrd, hti, hn.symm, hmV, hfl, htk, ?_, n3, n4, kb.1, kb.2⟩
  obtain ⟨q, c, c1, c2, c3⟩ := whole_fits (E := E + 20) (by omega) hmV hv'
  rw [hk] at c1
  rw [order_val (ofInt_val k q c c1 c2 c3) hmV]
  rcases kk with ⟨y0, e⟩ | ⟨y0, ⟨e1, e2⟩ | ⟨e1, e2, e3⟩⟩
  · right
    refine ⟨?_, e⟩
    intro hc
    have := Int.compare_eq_gt.1 (Option.some.inj hc)
    rw [e] at this; omega
  · right
    refine ⟨?_, e2⟩
    intro hc
    have := Int.compare_eq_gt.1 (Option.some.inj hc)
    omega
  · left
    exact ⟨by rw [Int.compare_eq_gt.2 e1], by omega⟩

end Go.Proofs.Ytlandgfmdhcjmaa
