/- FixParts: a quotient times its divisor is at most the number, and one part more is beyond it: for every two numbers. -/
import Derived.Test.YtdmoacihidligaaTold1
namespace Go.Proofs.Ytdmoacihidligaa
open Go.RowKit

theorem and_mask (x : Int) (k : Nat) (hk : k ≤ 62) : bits .and .i64 x ((2 ^ k - 1 : Nat) : Int) = x % ((2 ^ k : Nat) : Int) := by
  have hp : 2 ^ k ∣ (18446744073709551616 : Nat) := ⟨2 ^ (64 - k), by rw [← Nat.pow_add, show k + (64 - k) = 64 by omega]⟩
  have hle : 2 ^ k ≤ 2 ^ 62 := Nat.pow_le_pow_right (by omega) hk
  have hpos : 0 < 2 ^ k := Nat.two_pow_pos k
  have e1 : (BitVec.ofInt 64 ((2 ^ k - 1 : Nat) : Int)).toNat = 2 ^ k - 1 := by
    rw [BitVec.ofInt_natCast, BitVec.toNat_ofNat]; exact Nat.mod_eq_of_lt (by omega)
  have e2 : (BitVec.ofInt 64 x).toNat = (x % 18446744073709551616).toNat := by
    rw [BitVec.toNat_ofInt]; rfl
  have e4 : (BitVec.ofInt 64 x &&& BitVec.ofInt 64 ((2 ^ k - 1 : Nat) : Int)).toNat = (x % 18446744073709551616).toNat % 2 ^ k := by
    rw [BitVec.toNat_and, e1, e2, Nat.and_two_pow_sub_one_eq_mod]
  show IntKind.i64.wrap ((BitVec.ofInt 64 x &&& BitVec.ofInt 64 ((2 ^ k - 1 : Nat) : Int)).toNat : Int) = _
  rw [e4]
  have e3 : (((x % 18446744073709551616).toNat % 2 ^ k : Nat) : Int) = x % ((2 ^ k : Nat) : Int) := by
    rw [Int.natCast_emod, Int.toNat_of_nonneg (by omega)]
    exact Int.emod_emod_of_dvd x (Int.natCast_dvd_natCast.2 hp)
  have h1 : 0 ≤ x % ((2 ^ k : Nat) : Int) := Int.emod_nonneg _ (by omega)
  have h2 : x % ((2 ^ k : Nat) : Int) < ((2 ^ k : Nat) : Int) := Int.emod_lt_of_pos _ (by omega)
  rw [e3, IntKind.wrap_i64]
  omega

theorem and30 (x : Int) : bits .and .i64 x 1073741823 = x % 1073741824 := and_mask x 30 (by omega)

theorem ediv_bd {n y B : Int} (hy : 1 ≤ y) (h : -B ≤ n) (h' : n ≤ B) (hB : 0 ≤ B) : -B ≤ n / y ∧ n / y ≤ B := by
  have h1 : B ≤ B * y := by
    have := Int.mul_nonneg hB (show 0 ≤ y - 1 by omega)
    rw [Int.mul_sub, Int.mul_one] at this
    omega
  refine ⟨Int.le_ediv_of_mul_le (by omega) ?_, Int.ediv_le_of_le_mul (by omega) (by omega)⟩
  rw [Int.neg_mul]
  omega

/-- A quotient of small numbers: nothing is cut. -/
theorem fDiv_small {x y : Int} (hx : -1073741824 ≤ x) (hx' : x ≤ 1073741824) (hy : 1 ≤ y) :
    fDiv x y = x * 1048576 / y ∧ fDiv (-x) (-y) = x * 1048576 / y ∧ fDiv x y * y ≤ x * 1048576 ∧ x * 1048576 < fDiv x y * y + y := by
  have hb := ediv_bd (n := x * 1048576) (y := y) (B := 1125899906842624) hy (by omega) (by omega) (by omega)
  have e1 : fDiv x y = x * 1048576 / y := by
    unfold fDiv
    rw [if_neg (by omega), floorDiv_pos (by omega), clamp_in (by omega) (by omega)]
  have e2 : fDiv (-x) (-y) = x * 1048576 / y := by
    unfold fDiv
    rw [if_neg (by omega), floorDiv_neg (by omega), Int.neg_mul, Int.neg_neg, Int.neg_neg, clamp_in (by omega) (by omega)]
  have h1 := Int.ediv_mul_le (x * 1048576) (show y ≠ 0 by omega)
  have h2 := Int.lt_ediv_add_one_mul_self (x * 1048576) (show 0 < y by omega)
  rw [Int.add_mul, Int.one_mul] at h2
  rw [e1]
  exact ⟨rfl, e2, h1, h2⟩

set_option maxHeartbeats 400000 in
theorem walk_FixParts (a b : Int) (w0 : (Lit.int .i64 a).wf = true) (w1 : (Lit.int .i64 b).wf = true) (w : World) :
    Calls Try.prog 3 #[.int .i64 a, .int .i64 b] w fun e w' => e = .returned (.bool true) ∧ Grown w w' := by
  clear w0 w1
  obtain ⟨x, hx⟩ : ∃ x, a.tmod 1073741824 = x := ⟨_, rfl⟩
  obtain ⟨m, hm⟩ : ∃ m, bits .and .i64 b 1073741823 = m := ⟨_, rfl⟩
  have x1 : -1073741824 ≤ x := by have := Int.lt_tmod_of_pos a (show (0 : Int) < 1073741824 by omega); omega
  have x2 : x ≤ 1073741824 := by have := Int.tmod_lt_of_pos a (show (0 : Int) < 1073741824 by omega); omega
  have m1 : 0 ≤ m := by rw [and30] at hm; omega
  have m2 : m < 1073741824 := by rw [and30] at hm; omega
  obtain ⟨y, hy⟩ : ∃ y, 1 + m = y := ⟨_, rfl⟩
  have y1 : 1 ≤ y := by omega
  have y2 : y ≤ 1073741824 := by omega
  clear m1 m2
  obtain ⟨q1, q2, q3, q4⟩ := fDiv_small x1 x2 y1
  obtain ⟨q, hq⟩ : ∃ q, fDiv x y = q := ⟨_, rfl⟩
  rw [← q1, hq] at q2
  rw [hq] at q3 q4
  have Hq := Lib.hid hq
  have Hq2 := Lib.hid q2
  have p1 : -1125899906842624 ≤ q * y + y := by omega
  clear hq q1 q2
  go_enter Try.func3, Try.ntmps3
  go_wp2_with fail
  refine (fDiv_any x y _ (by omega) (by omega) (by omega) (by omega)).mono ?_
  rintro e w1 ⟨rfl, hw1⟩
  rw [Hq.out]
  have Hw1 := Lib.hid hw1
  clear hw1
  go_wp2_with fail
  refine (told_any _).mono ?_
  rintro e w2 ⟨rfl, hw2⟩
  have Hw2 := Lib.hid hw2
  clear hw2
  go_wp2_with fail
  refine (fDiv_any (-x) (-y) _ (by omega) (by omega) (by omega) (by omega)).mono ?_
  rintro e w3 ⟨rfl, hw3⟩
  rw [Hq2.out]
  have Hw3 := Lib.hid hw3
  clear hw3
  go_wp2_with fail
  go_ret
  exact ⟨rfl, ((Hw1.out.trans Hw2.out).trans Hw3.out).grown⟩

end Go.Proofs.Ytdmoacihidligaa
