/- Doubles: sums, by values. -/
import Derived.Test.YtlandgfmdhcjmaaFltOps
namespace Go.Proofs.Ytlandgfmdhcjmaa
open Ieee
set_option linter.unusedVariables false

theorem sgn_of (t : Int) (b : Bool) : sgn (if t = 0 then b else decide (t < 0)) t.natAbs = t := by
  by_cases h : t = 0
  · subst h; simp [sgn]
  · rw [if_neg h]
    by_cases h2 : t < 0
    · simp [sgn, h2]; omega
    · simp [sgn, h2]; omega

theorem sgn_shift (s : Bool) (m : Nat) {i base : Int} (h : base ≤ i) (hb : -1074 ≤ base) : signed s m (i - base).toNat * 2 ^ (base + 1074).toNat = sgn s m * 2 ^ (i + 1074).toNat := by
  rw [signed_sgn, Int.mul_assoc, ← Int.pow_add]
  congr 2; omega

/-- What is written of a sum. -/
theorem sum_write {s : Bool} {n : Nat} {j : Int} {S : Int} (hj : -1074 ≤ j) (hS : sgn s n * 2 ^ (j + 1074).toNat = S) (k u : Nat) (hs : S.natAbs = k * 2 ^ u) (hk : k < 9007199254740992) (hu : k = 0 ∨ u + k.log2 ≤ 2097) :
    HasV (double.nearest s n j) S := by
  obtain ⟨p, hp⟩ : ∃ p, (j + 1074).toNat = p := ⟨_, rfl⟩
  have hn : n * 2 ^ p = k * 2 ^ u := by
    rw [← hs, ← hS, hp, Int.natAbs_mul, sgn_abs, Int.natAbs_pow]; rfl
  by_cases h0 : n = 0
  · subst h0
    have := write_val s 0 0 (p + 4000) j (by simp) (by omega) (by omega) (.inl rfl)
    rw [sgn_zero, Int.zero_mul] at this
    rw [sgn_zero, Int.zero_mul] at hS
    rw [← hS]; exact this
  · have hk0 : k ≠ 0 := by
      rintro rfl
      have := Nat.mul_ne_zero h0 (Nat.pos_iff_ne_zero.1 (Nat.two_pow_pos p))
      omega
    by_cases hup : p ≤ u
    · obtain ⟨c, rfl⟩ : ∃ c, u = p + c := ⟨u - p, by omega⟩
      have hn' : n = k * 2 ^ c := by
        rw [Nat.add_comm, Nat.pow_add, ← Nat.mul_assoc] at hn
        exact Nat.eq_of_mul_eq_mul_right (Nat.two_pow_pos p) hn
      have := write_val s n k c j hn' hk (by omega) (by omega)
      have e : sgn s k * 2 ^ (j + (c : Int) + 1074).toNat = S := by
        rw [← hS, hp]
        have : (j + (c : Int) + 1074).toNat = c + p := by omega
        rw [this, Int.pow_add, ← Int.mul_assoc, hn']
        congr 1
        cases s <;> simp [sgn, Int.neg_mul]
      rw [← e]; exact this
    · obtain ⟨c, rfl⟩ : ∃ c, p = u + c := ⟨p - u, by omega⟩
      have hk' : k = n * 2 ^ c := by
        rw [Nat.add_comm, Nat.pow_add, ← Nat.mul_assoc] at hn
        exact (Nat.eq_of_mul_eq_mul_right (Nat.two_pow_pos u) hn).symm
      have hl : k.log2 = n.log2 + c := by rw [hk']; exact log2_shift n c h0
      have hnk : n ≤ k := by rw [hk']; exact Nat.le_mul_of_pos_right _ (Nat.two_pow_pos c)
      have := write_val s n n 0 j (by simp) (by omega) (by omega) (by omega)
      have e : sgn s n * 2 ^ (j + ((0 : Nat) : Int) + 1074).toNat = S := by
        rw [← hS]; congr 2; omega
      rw [← e]; exact this

theorem add_val {x y : Nat} {A B : Int} (hx : HasV x A) (hy : HasV y B) (k u : Nat) (hs : (A + B).natAbs = k * 2 ^ u) (hk : k < 9007199254740992) (hu : k = 0 ∨ u + k.log2 ≤ 2097) :
    ∃ r, floatBits .add .f64 x y = some r ∧ HasV r (A + B) := by
  obtain ⟨s, m, i, h1, h2, _, hA⟩ := hx.ex
  obtain ⟨t, n, j, k1, k2, _, hB⟩ := hy.ex
  refine ⟨double.write (.number (if signed s m (i - min i j).toNat + signed t n (j - min i j).toNat = 0 then s && t else decide (signed s m (i - min i j).toNat + signed t n (j - min i j).toNat < 0)) (signed s m (i - min i j).toNat + signed t n (j - min i j).toNat).natAbs (min i j)), ?_, ?_⟩
  · show Format.add double x y = _
    unfold Format.add
    rw [h1, k1]
    rfl
  · refine sum_write (by omega) ?_ k u hs hk hu
    rw [sgn_of, Int.add_mul, sgn_shift s m (by omega) (by omega), sgn_shift t n (by omega) (by omega), hA, hB]

theorem sub_self {x : Nat} {A : Int} (hx : HasV x A) : ∃ r, floatBits .sub .f64 x x = some r ∧ HasV r 0 := by
  obtain ⟨s, m, i, h1, h2, _, hA⟩ := hx.ex
  have e : signed s m (i - min i i).toNat + signed (!s) m (i - min i i).toNat = 0 := by
    rw [signed_sgn, signed_sgn]; cases s <;> simp [sgn] <;> omega
  refine ⟨double.write (.number (s && !s) 0 (min i i)), ?_, ?_⟩
  · show Format.sub double x x = _
    unfold Format.sub
    rw [h1]
    simp only [Datum.opposite, Datum.sum, e]
    rfl
  · exact sum_write (by omega) (by simp [sgn_zero]) 0 0 (by simp) (by omega) (.inl rfl)

end Go.Proofs.Ytlandgfmdhcjmaa
