/- Doubles: the values of words, as whole numbers of the least place: order, floor, whole part. -/
import Derived.Test.YthhgpoihkmokcaaDoorFltPlain
namespace Go.Proofs.YthhgpoihkmokcaaDoor
open Ieee

def sgn (s : Bool) (m : Nat) : Int := if s then -(m : Int) else m
theorem signed_sgn (s : Bool) (m u : Nat) : signed s m u = sgn s m * 2 ^ u := by
  unfold signed sgn
  cases s <;> simp [Nat.shiftLeft_eq, Int.neg_mul]

/-- The unit: 1 in least places. -/
def T : Int := 2 ^ 1074
theorem T_pos : 0 < T := Int.pow_pos (by omega)

structure HasV (w : Nat) (V : Int) : Prop where
  ex : ∃ s m i, double.read w = .number s m i ∧ -1074 ≤ i ∧ m < 9007199254740992 ∧ V = sgn s m * 2 ^ (i + 1074).toNat

theorem cmp_scale (a b : Int) (p : Int) (hp : 0 < p) : compare (a * p) (b * p) = compare a b := by
  rcases Int.lt_trichotomy a b with h | h | h
  · rw [show compare a b = .lt from Int.compare_eq_lt.2 h, Int.compare_eq_lt.2 (Int.mul_lt_mul_of_pos_right h hp)]
  · subst h; rw [Int.compare_eq_eq.2 rfl, Int.compare_eq_eq.2 rfl]
  · rw [Int.compare_eq_gt.2 h, Int.compare_eq_gt.2 (Int.mul_lt_mul_of_pos_right h hp)]

theorem order_val {x y : Nat} {A B : Int} (hx : HasV x A) (hy : HasV y B) : double.order x y = some (compare A B) := by
  obtain ⟨s, m, i, h1, h2, _, rfl⟩ := hx.ex
  obtain ⟨t, n, j, k1, k2, _, rfl⟩ := hy.ex
  unfold Format.order
  rw [h1, k1]
  simp only [Datum.order, signed_sgn]
  congr 1
  rw [← cmp_scale _ _ (2 ^ (min i j + 1074).toNat) (Int.pow_pos (by omega)), Int.mul_assoc, Int.mul_assoc, ← Int.pow_add, ← Int.pow_add]
  congr 3 <;> omega

theorem gap_same (n d : Nat) : n / 2 ^ min d (n.log2 + 2) = n / 2 ^ d ∧ n % 2 ^ min d (n.log2 + 2) = n % 2 ^ d := by
  by_cases h : d ≤ n.log2 + 2
  · rw [Nat.min_eq_left h]; exact ⟨rfl, rfl⟩
  · rw [Nat.min_eq_right (by omega)]
    have h1 : n < 2 ^ (n.log2 + 2) := Nat.lt_of_lt_of_le Nat.lt_log2_self (Nat.pow_le_pow_right (by omega) (by omega))
    have h2 : n < 2 ^ d := Nat.lt_of_lt_of_le h1 (Nat.pow_le_pow_right (by omega) (by omega))
    rw [Nat.div_eq_of_lt h1, Nat.div_eq_of_lt h2, Nat.mod_eq_of_lt h1, Nat.mod_eq_of_lt h2]
    exact ⟨rfl, rfl⟩

theorem neg_div (n G : Nat) (hG : 0 < G) : (-(n : Int)) / (G : Int) = -((n / G + (n % G != 0).toNat : Nat) : Int) := by
  obtain ⟨q, hq⟩ : ∃ q, n / G = q := ⟨_, rfl⟩
  obtain ⟨r, hr⟩ : ∃ r, n % G = r := ⟨_, rfl⟩
  have h := Nat.div_add_mod n G
  have hlt := Nat.mod_lt n hG
  rw [hq, hr] at *
  have e : (-(n : Int)) = -(r : Int) + G * (-(q : Int)) := by
    rw [← h]; push_cast; rw [Int.mul_neg]; omega
  rw [e, Int.add_mul_ediv_left _ _ (by omega)]
  by_cases h0 : r = 0
  · subst h0; simp
  · have h1 : (r != 0) = true := by simpa using h0
    rw [h1, Int.ediv_eq_neg_one_of_neg_of_le (by omega) (by omega)]
    simp; omega

theorem cut_down (s : Bool) (n d : Nat) : sgn s (Toward.down.cut s n d) = sgn s n / 2 ^ d := by
  unfold Toward.cut
  simp only [Nat.one_shiftLeft]
  obtain ⟨h1, h2⟩ := gap_same n d
  rw [h1, h2]
  cases s
  · simp [sgn]
  · have := neg_div n (2 ^ d) (Nat.two_pow_pos d)
    simp only [sgn, if_true, Bool.true_and]
    rw [← this]; simp

theorem cut_zero (s : Bool) (n d : Nat) : sgn s (Toward.zero.cut s n d) = (sgn s n).tdiv (2 ^ d) := by
  unfold Toward.cut
  simp only [Nat.one_shiftLeft]
  obtain ⟨h1, h2⟩ := gap_same n d
  rw [h1]
  cases s
  · simp [sgn]
  · simp [sgn]

/-- The whole number below a value, and the one towards zero. -/
theorem whole_cast (s : Bool) (m : Nat) (i : Int) (hi : -1074 ≤ i) :
    sgn s (m <<< i.toNat) / 2 ^ (-i).toNat = sgn s m * 2 ^ (i + 1074).toNat / T ∧ (sgn s (m <<< i.toNat)).tdiv (2 ^ (-i).toNat) = (sgn s m * 2 ^ (i + 1074).toNat).tdiv T := by
  have hs : sgn s (m <<< i.toNat) = sgn s m * 2 ^ i.toNat := by cases s <;> simp [sgn, Nat.shiftLeft_eq, Int.neg_mul]
  rw [hs]
  unfold T
  by_cases h : 0 ≤ i
  · have e1 : (-i).toNat = 0 := by omega
    have e2 : (i + 1074).toNat = i.toNat + 1074 := by omega
    rw [e1, e2, Int.pow_add, ← Int.mul_assoc, Int.mul_ediv_cancel _ (Int.pow_ne_zero (by omega)), Int.mul_tdiv_cancel _ (Int.pow_ne_zero (by omega))]
    simp
  · have e1 : i.toNat = 0 := by omega
    have e2 : (2 : Int) ^ 1074 = 2 ^ (-i).toNat * 2 ^ (i + 1074).toNat := by rw [← Int.pow_add]; congr 1; omega
    rw [e1, e2, Int.mul_ediv_mul_of_pos_left _ _ (Int.pow_pos (by omega)), Int.mul_tdiv_mul_of_pos_left _ _ (Int.pow_pos (by omega))]
    simp

/-- What is written of a whole number that a double can hold. -/
theorem write_val (s : Bool) (mag k c : Nat) (place : Int) (hm : mag = k * 2 ^ c) (hk : k < 9007199254740992) (hlo : -1074 ≤ place + c) (hhi : k = 0 ∨ place + c + k.log2 ≤ 1023) :
    HasV (double.nearest s mag place) (sgn s k * 2 ^ (place + c + 1074).toNat) := by
  by_cases hk0 : k = 0
  · subst hk0
    have h0 : mag = 0 := by simpa using hm
    subst h0
    refine ⟨s, 0, -1074, ?_, by omega, by omega, by simp [sgn]⟩
    have := read_word s 0 0 (by omega) (.inl rfl) (by omega)
    simpa [Format.nearest] using this
  · obtain ⟨q, i, h1, h2, h3, h4, h5⟩ := nearest_exact s mag k c place hm hk0 hk hlo (hhi.resolve_left hk0)
    refine ⟨s, q, i, h1, h2, h5, ?_⟩
    have e : sgn s q = sgn s k * 2 ^ (place + c - i).toNat := by rw [h4]; cases s <;> simp [sgn, Int.neg_mul]
    rw [e, Int.mul_assoc, ← Int.pow_add]
    congr 2
    omega

end Go.Proofs.YthhgpoihkmokcaaDoor
