/- Small common words: masks, bounds of quotients, contracts at known values. -/
import Derived.Test.YtomegcicfpmefaaFixD
namespace Go.Proofs.Ytomegcicfpmefaa
open Go.RowKit
set_option linter.unusedVariables false

theorem and_mask (x : Int) (k : Nat) (hk : k ≤ 62) : bits .and .i64 x ((2 ^ k - 1 : Nat) : Int) = x % ((2 ^ k : Nat) : Int) := by
  have hp : 2 ^ k ∣ (18446744073709551616 : Nat) := ⟨2 ^ (64 - k), by rw [← Nat.pow_add, show k + (64 - k) = 64 by omega]⟩
  have hle : 2 ^ k ≤ 2 ^ 62 := Nat.pow_le_pow_right (by omega) hk
  have hpos : 0 < 2 ^ k := Nat.two_pow_pos k
  have e1 : (BitVec.ofInt 64 ((2 ^ k - 1 : Nat) : Int)).toNat = 2 ^ k - 1 := by
    rw [BitVec.ofInt_natCast, BitVec.toNat_ofNat]; exact Nat.mod_eq_of_lt (by omega)
  have e2 : (BitVec.ofInt 64 x).toNat = (x % 18446744073709551616).toNat := by
    rw [BitVec.toNat_ofInt]; rfl
  have e4 : (BitVec.ofInt 64 x &&& BitVec.ofInt 64 ((2 ^ k - 1 : Nat) : Int)).toNat = (x % 18446744073709551616).toNat % 2 ^ k := by
    rw [BitVec.toNat_and, e1, e2, Nat.and_two_pow_sub_one_eq_mod]
  show IntKind.i64.wrap ((BitVec.ofInt 64 x &&& BitVec.ofInt 64 ((2 ^ k - 1 : Nat) : Int)).toNat : Int) = _
  rw [e4]
  have e3 : (((x % 18446744073709551616).toNat % 2 ^ k : Nat) : Int) = x % ((2 ^ k : Nat) : Int) := by
    rw [Int.natCast_emod, Int.toNat_of_nonneg (by omega)]
    exact Int.emod_emod_of_dvd x (Int.natCast_dvd_natCast.2 hp)
  have h1 : 0 ≤ x % ((2 ^ k : Nat) : Int) := Int.emod_nonneg _ (by omega)
  have h2 : x % ((2 ^ k : Nat) : Int) < ((2 ^ k : Nat) : Int) := Int.emod_lt_of_pos _ (by omega)
  rw [e3, IntKind.wrap_i64]
  omega

theorem ediv_bd {n y B : Int} (hy : 1 ≤ y) (h : -B ≤ n) (h' : n ≤ B) (hB : 0 ≤ B) : -B ≤ n / y ∧ n / y ≤ B := by
  have h1 : B ≤ B * y := by
    have := Int.mul_nonneg hB (show 0 ≤ y - 1 by omega)
    rw [Int.mul_sub, Int.mul_one] at this
    omega
  refine ⟨Int.le_ediv_of_mul_le (by omega) ?_, Int.ediv_le_of_le_mul (by omega) (by omega)⟩
  rw [Int.neg_mul]
  omega

theorem tdiv_neg' (a : Int) (h : a < 0) (b : Int) : a.tdiv b = -((-a) / b) := by
  have e := Int.neg_tdiv (a := -a) (b := b)
  rw [Int.neg_neg] at e
  rw [e, Int.tdiv_eq_ediv_of_nonneg (by omega)]

theorem Dr.grown {w w' : World} (h : Dr w w') : Grown w w' := by
  obtain ⟨n, rfl⟩ := h
  exact ⟨(World.keptBut_refl w _).alike (World.drewN_alike _ _), fun _ => rfl, Nat.le_refl _⟩

theorem rw_mul {a b c : Int} {w : World} (h : Hid (fMul a b = c)) (a1 : -9223372036854775808 ≤ a) (a2 : a ≤ 9223372036854775807) (b1 : -9223372036854775808 ≤ b) (b2 : b ≤ 9223372036854775807) :
    Calls Try.prog 23 #[.int .i64 a, .int .i64 b] w fun e w' => e = .returned (.int .i64 c) ∧ w = w' := by
  have k := fMul_any a b w a1 a2 b1 b2
  rw [h.out] at k
  exact k
theorem rw_div {a b c : Int} {w : World} (h : Hid (fDiv a b = c)) (a1 : -9223372036854775808 ≤ a) (a2 : a ≤ 9223372036854775807) (b1 : -9223372036854775808 ≤ b) (b2 : b ≤ 9223372036854775807) :
    Calls Try.prog 11 #[.int .i64 a, .int .i64 b] w fun e w' => e = .returned (.int .i64 c) ∧ Dr w w' := by
  have k := fDiv_any a b w a1 a2 b1 b2
  rw [h.out] at k
  exact k
theorem rw_whole {a c : Int} {w : World} (h : Hid (fWhole a = c)) (a1 : -9223372036854775808 ≤ a) (a2 : a ≤ 9223372036854775807) :
    Calls Try.prog 12 #[.int .i64 a] w fun e w' => e = .returned (.int .i64 c) ∧ w = w' := by
  have k := fWhole_any a w a1 a2
  rw [h.out] at k
  exact k
end Go.Proofs.Ytomegcicfpmefaa
