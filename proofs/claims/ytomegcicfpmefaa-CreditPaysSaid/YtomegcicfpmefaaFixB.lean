/- Products and quotients of package fix: their contracts. -/
import Derived.Test.YtomegcicfpmefaaFixA
import Derived.Test.YtomegcicfpmefaaShelf
namespace Go.Proofs.Ytomegcicfpmefaa
open Go.RowKit
set_option linter.unusedVariables false

theorem mul64_any (x y hi lo : Nat) (w : World) (hx : x < 18446744073709551616) (hy : y < 18446744073709551616) (hp : x * y = hi * 18446744073709551616 + lo) (hlo : lo < 18446744073709551616) :
    Calls Try.prog 29 #[.int .u64 x, .int .u64 y] w fun e w' => e = .returned (.tuple #[.int .u64 hi, .int .u64 lo]) ∧ w = w' := by
  refine (Try.bits_Mul64 x y hx hy w).mono ?_
  rintro e w' ⟨rfl, rfl⟩
  have h1 : x * y / 18446744073709551616 = hi := by omega
  have h2 : x * y % 18446744073709551616 = lo := by omega
  rw [h1, h2]
  exact ⟨rfl, rfl⟩


theorem or_join (k a b : Nat) (hk : k ≤ 64) (ha : a < 2 ^ (64 - k)) (hb : b < 2 ^ k) : bits .or .u64 ((2 ^ k * a : Nat) : Int) (b : Int) = ((2 ^ k * a + b : Nat) : Int) := by
  have e : (2 : Nat) ^ k * 2 ^ (64 - k) = 18446744073709551616 := by rw [← Nat.pow_add, show k + (64 - k) = 64 by omega]
  have h1 : 2 ^ k * a + b < 18446744073709551616 := by
    have h2 : 2 ^ k * (a + 1) ≤ 2 ^ k * 2 ^ (64 - k) := Nat.mul_le_mul_left _ (by omega)
    rw [Nat.mul_add, Nat.mul_one, e] at h2
    omega
  rw [bits_or_u64_nat _ _ (by omega) (by omega), Nat.two_pow_add_eq_or_of_lt hb]

theorem and_low (x : Nat) (hx : x < 18446744073709551616) : bits .and .u64 (x : Int) 1048575 = ((x % 1048576 : Nat) : Int) := by
  have h := bits_and_u64_nat x 1048575 hx (by omega)
  have e : x &&& 1048575 = x % 1048576 := Nat.and_two_pow_sub_one_eq_mod x 20
  rw [e] at h
  exact h

theorem mul_or (hi lo : Nat) (hlo : lo < 18446744073709551616) :
    bits .or .u64 (IntKind.u64.wrap ((hi : Int) * 17592186044416)) ((lo : Int) / 1048576) = (((hi * 18446744073709551616 + lo) / 1048576 % 18446744073709551616 : Nat) : Int) := by
  have e1 : IntKind.u64.wrap ((hi : Int) * 17592186044416) = ((2 ^ 44 * (hi % 1048576) : Nat) : Int) := by rw [IntKind.wrap_u64]; omega
  have e2 : (lo : Int) / 1048576 = ((lo / 1048576 : Nat) : Int) := by omega
  rw [e1, e2, or_join 44 _ _ (by omega) (by omega) (by omega)]
  congr 1
  omega

theorem and_bool (n : Nat) : ((n : Int) != 0) = decide (n ≠ 0) := by
  rw [Bool.eq_iff_iff]; simp

set_option maxHeartbeats 400000 in
theorem fMul_any (a b : Int) (w : World) (a1 : -9223372036854775808 ≤ a) (a2 : a ≤ 9223372036854775807) (b1 : -9223372036854775808 ≤ b) (b2 : b ≤ 9223372036854775807) :
    Calls Try.prog 23 #[.int .i64 a, .int .i64 b] w fun e w' => e = .returned (.int .i64 (fMul a b)) ∧ w = w' := by
  obtain ⟨hi, hhi⟩ : ∃ hi, a.natAbs * b.natAbs / 18446744073709551616 = hi := ⟨_, rfl⟩
  obtain ⟨lo, hlo⟩ : ∃ lo, a.natAbs * b.natAbs % 18446744073709551616 = lo := ⟨_, rfl⟩
  have hp : a.natAbs * b.natAbs = hi * 18446744073709551616 + lo := by omega
  have hlo' : lo < 18446744073709551616 := by omega
  have hle : a.natAbs * b.natAbs ≤ 9223372036854775808 * 9223372036854775808 := Nat.mul_le_mul (by omega) (by omega)
  have hhi' : hi < 18446744073709551616 := by omega
  have Hp := Lib.hid hp
  clear hp hhi hlo hle
  go_enter Try.func23, Try.ntmps23
  go_wp2_with fail
  refine (size_any a _ a1 a2).mono ?_
  rintro e w' ⟨rfl, rfl⟩
  go_wp2_with fail
  refine (size_any b _ b1 b2).mono ?_
  rintro e w' ⟨rfl, rfl⟩
  go_wp2_with fail
  refine (mul64_any a.natAbs b.natAbs hi lo _ (by omega) (by omega) Hp.out hlo').mono ?_
  rintro e w' ⟨rfl, rfl⟩
  go_wp2_with fail
  have e1 : (hi : Int) / 1048576 = ((hi / 1048576 : Nat) : Int) := by omega
  rw [e1, mul_or hi lo hlo', and_low lo hlo', and_bool]
  clear e1
  refine (made_any (hi / 1048576) ((hi * 18446744073709551616 + lo) / 1048576 % 18446744073709551616) (decide (a < 0) != decide (b < 0)) (decide (lo % 1048576 ≠ 0)) _ (by omega) (by omega)).mono ?_
  rintro e w' ⟨rfl, rfl⟩
  go_wp2_with fail
  go_ret
  refine ⟨ret_int ?_, rfl⟩
  have hp := Hp.out
  have e2 : hi / 1048576 * 18446744073709551616 + (hi * 18446744073709551616 + lo) / 1048576 % 18446744073709551616 = a.natAbs * b.natAbs / 1048576 := by rw [hp]; omega
  have e3 : lo % 1048576 = a.natAbs * b.natAbs % 1048576 := by rw [hp]; omega
  rw [e2, e3]
  have h := mul_made a b
  simp only [ne_eq, decide_not] at h
  exact h

set_option maxHeartbeats 400000 in
theorem fWhole_any (n : Int) (w : World) (n1 : -9223372036854775808 ≤ n) (n2 : n ≤ 9223372036854775807) :
    Calls Try.prog 12 #[.int .i64 n] w fun e w' => e = .returned (.int .i64 (fWhole n)) ∧ w = w' := by
  go_enter Try.func12, Try.ntmps12
  go_wp2_with fail
  refine (fMul_any n _ _ n1 n2 (by omega) (by omega)).mono ?_
  rintro e w' ⟨rfl, rfl⟩
  go_wp2_with fail
  go_ret
  exact ⟨ret_int (whole_mul n), rfl⟩

end Go.Proofs.Ytomegcicfpmefaa
