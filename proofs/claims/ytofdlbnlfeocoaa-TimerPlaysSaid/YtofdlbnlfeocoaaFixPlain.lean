/-
  Plain arithmetic of fixed-point numbers and of the schoolbook division of two words by one: no program in sight.
-/
namespace Go.Proofs.Ytofdlbnlfeocoaa

def fMax : Int := 9223372036854775807
def fMin : Int := -9223372036854775808
/-- Into int64: the nearer end. -/
def clamp (x : Int) : Int := if x < -9223372036854775808 then fMin else if 9223372036854775807 < x then fMax else x

theorem clamp_in {x : Int} (h : -9223372036854775808 ≤ x) (h' : x ≤ 9223372036854775807) : clamp x = x := by
  unfold clamp; rw [if_neg (by omega), if_neg (by omega)]
theorem clamp_le (x : Int) : -9223372036854775808 ≤ clamp x ∧ clamp x ≤ 9223372036854775807 := by
  unfold clamp fMin fMax; split <;> (try split) <;> omega
theorem clamp_cases (x : Int) : (x < -9223372036854775808 ∧ clamp x = -9223372036854775808) ∨ (9223372036854775807 < x ∧ clamp x = 9223372036854775807) ∨ (-9223372036854775808 ≤ x ∧ x ≤ 9223372036854775807 ∧ clamp x = x) := by
  by_cases h : x < -9223372036854775808
  · exact .inl ⟨h, by unfold clamp fMin; rw [if_pos h]⟩
  · by_cases h' : 9223372036854775807 < x
    · exact .inr (.inl ⟨h', by unfold clamp fMax; rw [if_neg h, if_pos h']⟩)
    · exact .inr (.inr ⟨by omega, by omega, clamp_in (by omega) (by omega)⟩)
theorem clamp_mono {x y : Int} (h : x ≤ y) : clamp x ≤ clamp y := by
  rcases clamp_cases x with h1 | h1 | h1 <;> rcases clamp_cases y with h2 | h2 | h2 <;> omega
theorem clamp_above {x : Int} (h : 9223372036854775807 ≤ x) : clamp x = 9223372036854775807 := by
  rcases clamp_cases x with h1 | h1 | h1 <;> omega
theorem clamp_below {x : Int} (h : x ≤ -9223372036854775808) : clamp x = -9223372036854775808 := by
  rcases clamp_cases x with h1 | h1 | h1 <;> omega

def fAdd (a b : Int) : Int := clamp (a + b)
def fSub (a b : Int) : Int := clamp (a - b)
def fMul (a b : Int) : Int := clamp (a * b / 1048576)
/-- The greatest whole number that is not above n by d. -/
def floorDiv (n d : Int) : Int := if 0 < d then n / d else (-n) / (-d)
def fDiv (a b : Int) : Int := if b = 0 then (if 0 < a then fMax else if a < 0 then fMin else 0) else clamp (floorDiv (a * 1048576) b)
def fWhole (n : Int) : Int := clamp (n * 1048576)
def fInt (a : Int) : Int := a / 1048576

/-- A number of its size and its sign, as the code makes it. -/
def madeV (n : Nat) (below more : Bool) : Int := if below then clamp (-((n + more.toNat : Nat) : Int)) else clamp (n : Int)

theorem neg_ediv (n d : Nat) (hd : 0 < d) : (-(n : Int)) / (d : Int) = -((n / d + (decide (n % d ≠ 0)).toNat : Nat) : Int) := by
  have e := Nat.div_add_mod n d
  have hr := Nat.mod_lt n hd
  generalize n / d = q at *
  generalize n % d = r at *
  subst e
  by_cases h : r = 0
  · subst h
    simp only [Nat.add_zero, ne_eq, not_true, decide_false, Bool.toNat_false]
    rw [Int.natCast_mul, ← Int.mul_neg, Int.mul_ediv_cancel_left _ (by omega)]
  · simp only [ne_eq, h, not_false_eq_true, decide_true, Bool.toNat_true]
    have e2 : (-((d * q + r : Nat) : Int)) = ((d - r : Nat) : Int) + (d : Int) * (-((q + 1 : Nat) : Int)) := by
      rw [Int.natCast_add, Int.natCast_mul, Int.natCast_add, Int.natCast_sub (by omega)]
      generalize (d : Int) = D
      generalize (q : Int) = Q
      generalize (r : Int) = R
      simp only [Int.mul_neg, Int.mul_add, Int.natCast_one, Int.mul_one]
      omega
    rw [e2, Int.add_mul_ediv_left _ _ (by omega), Int.ediv_eq_zero_of_lt (by omega) (by omega)]
    omega

theorem madeV_pos (n : Nat) (more : Bool) : madeV n false more = clamp (n : Int) := rfl
theorem madeV_neg (n : Nat) (more : Bool) : madeV n true more = clamp (-((n + more.toNat : Nat) : Int)) := rfl
theorem floorDiv_pos {n d : Int} (h : 0 < d) : floorDiv n d = n / d := if_pos h
theorem floorDiv_neg {n d : Int} (h : ¬ 0 < d) : floorDiv n d = (-n) / (-d) := if_neg h

/-- The sign of a product. -/
theorem mul_sign (a b : Int) : ((decide (a < 0) != decide (b < 0)) = true ∧ a * b = -((a.natAbs * b.natAbs : Nat) : Int)) ∨ ((decide (a < 0) != decide (b < 0)) = false ∧ a * b = ((a.natAbs * b.natAbs : Nat) : Int)) := by
  rw [Int.natCast_mul]
  rcases Int.lt_or_le a 0 with ha | ha <;> rcases Int.lt_or_le b 0 with hb | hb
  · have e1 : (a.natAbs : Int) = -a := by omega
    have e2 : (b.natAbs : Int) = -b := by omega
    exact .inr ⟨by simp [ha, hb], by rw [e1, e2, Int.neg_mul_neg]⟩
  · have e1 : (a.natAbs : Int) = -a := by omega
    have e2 : (b.natAbs : Int) = b := by omega
    exact .inl ⟨by simp [ha]; omega, by rw [e1, e2, Int.neg_mul, Int.neg_neg]⟩
  · have e1 : (a.natAbs : Int) = a := by omega
    have e2 : (b.natAbs : Int) = -b := by omega
    exact .inl ⟨by simp [hb]; omega, by rw [e1, e2, Int.mul_neg, Int.neg_neg]⟩
  · have e1 : (a.natAbs : Int) = a := by omega
    have e2 : (b.natAbs : Int) = b := by omega
    exact .inr ⟨by simp; omega, by rw [e1, e2]⟩

theorem mul_made (a b : Int) : madeV (a.natAbs * b.natAbs / 1048576) (decide (a < 0) != decide (b < 0)) (decide (a.natAbs * b.natAbs % 1048576 ≠ 0)) = fMul a b := by
  unfold fMul
  rcases mul_sign a b with ⟨h1, h2⟩ | ⟨h1, h2⟩
  · rw [h1, h2, madeV_neg, ← neg_ediv _ 1048576 (by omega)]; rfl
  · rw [h1, h2, madeV_pos]; rfl

theorem div_made (a b : Int) (hb : b ≠ 0) : madeV (a.natAbs * 1048576 / b.natAbs) (decide (a < 0) != decide (b < 0)) (decide (a.natAbs * 1048576 % b.natAbs ≠ 0)) = fDiv a b := by
  unfold fDiv
  rw [if_neg hb]
  have hd : 0 < b.natAbs := by omega
  have hn := neg_ediv (a.natAbs * 1048576) b.natAbs hd
  have hp : ((a.natAbs * 1048576 / b.natAbs : Nat) : Int) = ((a.natAbs * 1048576 : Nat) : Int) / (b.natAbs : Int) := Int.natCast_ediv _ _
  rcases Int.lt_or_le b 0 with hb' | hb'
  · have e2 : -b = (b.natAbs : Int) := by omega
    rw [floorDiv_neg (by omega), e2]
    rcases Int.lt_or_le a 0 with ha | ha
    · have e1 : (-(a * 1048576)) = ((a.natAbs * 1048576 : Nat) : Int) := by omega
      have h1 : (decide (a < 0) != decide (b < 0)) = false := by simp [ha, hb']
      rw [h1, e1, madeV_pos, hp]
    · have e1 : (-(a * 1048576)) = -((a.natAbs * 1048576 : Nat) : Int) := by omega
      have h1 : (decide (a < 0) != decide (b < 0)) = true := by simp [hb']; omega
      rw [h1, e1, madeV_neg, hn]
  · have e2 : b = (b.natAbs : Int) := by omega
    have e3 : floorDiv (a * 1048576) b = (a * 1048576) / (b.natAbs : Int) := by rw [floorDiv_pos (by omega), ← e2]
    rw [e3]
    rcases Int.lt_or_le a 0 with ha | ha
    · have e1 : a * 1048576 = -((a.natAbs * 1048576 : Nat) : Int) := by omega
      have h1 : (decide (a < 0) != decide (b < 0)) = true := by simp [ha]; omega
      rw [h1, e1, madeV_neg, hn]
    · have e1 : a * 1048576 = ((a.natAbs * 1048576 : Nat) : Int) := by omega
      have h1 : (decide (a < 0) != decide (b < 0)) = false := by simp; omega
      rw [h1, e1, madeV_pos, hp]

theorem whole_mul (n : Int) : fMul n 1099511627776 = fWhole n := by
  unfold fMul fWhole
  congr 1
  omega

/-- What Knuth's trial quotient needs: the quotient digit. -/
theorem knuth_ge {yn1 yn0 u u1 q : Nat} (hu1 : u1 < 4294967296)
    (hq : q * (yn1 * 4294967296 + yn0) ≤ u * 4294967296 + u1) : q * yn1 ≤ u := by
  have e : q * (yn1 * 4294967296 + yn0) = (q * yn1) * 4294967296 + q * yn0 := by
    rw [Nat.mul_add, Nat.mul_assoc]
  rw [e] at hq
  generalize q * yn1 = a at *
  generalize q * yn0 = b at *
  omega

/-- The loop's state. -/
structure KInv (yn1 yn0 u u1 qh rh : Nat) : Prop where
  split : qh * yn1 + rh = u
  ge : (u * 4294967296 + u1) / (yn1 * 4294967296 + yn0) ≤ qh
  small : qh ≤ 4294967297

theorem kinv_start {yn1 yn0 u u1 : Nat} (h1 : 2147483648 ≤ yn1) (h0 : yn0 < 4294967296) (hu : u < yn1 * 4294967296 + yn0) (hu1 : u1 < 4294967296) :
    KInv yn1 yn0 u u1 (u / yn1) (u - (u / yn1) * yn1) := by
  have hpos : 0 < yn1 := by omega
  have hd := Nat.div_mul_le_self u yn1
  refine ⟨by omega, ?_, ?_⟩
  · rw [Nat.le_div_iff_mul_le hpos]
    exact knuth_ge hu1 (Nat.div_mul_le_self _ _)
  · refine Nat.le_of_lt_succ ((Nat.div_lt_iff_lt_mul hpos).2 ?_)
    omega

theorem kinv_rh {yn1 u : Nat} (hpos : 0 < yn1) : u - (u / yn1) * yn1 < yn1 := by
  have := Nat.mod_lt u hpos
  have h2 := Nat.div_add_mod u yn1
  rw [Nat.mul_comm] at h2
  generalize u / yn1 * yn1 = a at *
  omega

/-- The quotient digit is below 2^32. -/
theorem kq_lt {d u u1 : Nat} (hu : u < d) (hu1 : u1 < 4294967296) : (u * 4294967296 + u1) / d < 4294967296 := by
  have hd : 0 < d := by omega
  rw [Nat.div_lt_iff_lt_mul hd]
  omega

/-- A round: the test said the trial is too great. -/
theorem kinv_step {yn1 yn0 u u1 qh rh : Nat} (hu : u < yn1 * 4294967296 + yn0) (hu1 : u1 < 4294967296) (h : KInv yn1 yn0 u u1 qh rh)
    (ht : 4294967296 ≤ qh ∨ 4294967296 * rh + u1 < qh * yn0) : 1 ≤ qh ∧ KInv yn1 yn0 u u1 (qh - 1) (rh + yn1) := by
  have hlt := kq_lt hu hu1
  have hq : (u * 4294967296 + u1) / (yn1 * 4294967296 + yn0) < qh := by
    rcases ht with ht | ht
    · omega
    · rw [Nat.div_lt_iff_lt_mul (by omega), Nat.mul_add, ← Nat.mul_assoc]
      have := h.split
      generalize qh * yn1 = a at *
      generalize qh * yn0 = b at *
      omega
  have hs := h.split
  have hsm := h.small
  generalize hQ : (u * 4294967296 + u1) / (yn1 * 4294967296 + yn0) = Q at *
  obtain ⟨k, rfl⟩ : ∃ k, qh = k + 1 := ⟨qh - 1, by omega⟩
  rw [Nat.add_mul] at hs
  refine ⟨by omega, ⟨?_, ?_, by omega⟩⟩
  · simp only [Nat.add_sub_cancel]
    omega
  · rw [hQ]; omega

/-- The end: the test said no, or the rest has grown. -/
theorem kinv_end {yn1 yn0 u u1 qh rh : Nat} (h1 : 2147483648 ≤ yn1) (h : KInv yn1 yn0 u u1 qh rh)
    (ht : qh * yn0 ≤ 4294967296 * rh + u1) : qh = (u * 4294967296 + u1) / (yn1 * 4294967296 + yn0) := by
  refine Nat.le_antisymm ?_ h.ge
  rw [Nat.le_div_iff_mul_le (by omega), Nat.mul_add, ← Nat.mul_assoc]
  have := h.split
  generalize qh * yn1 = a at *
  generalize qh * yn0 = b at *
  omega

theorem kinv_end_great {yn0 u1 qh rh : Nat} (h0 : yn0 < 4294967296) (hq : qh ≤ 4294967296) (hr : 4294967296 ≤ rh) : qh * yn0 ≤ 4294967296 * rh + u1 := by
  have : qh * yn0 ≤ 4294967296 * 4294967295 := Nat.mul_le_mul hq (by omega)
  omega

/-- What is left. -/
theorem krest {d n : Nat} : n - n / d * d = n % d := by
  have := Nat.div_add_mod n d
  rw [Nat.mul_comm] at this
  omega

/-- The two digits together. -/
theorem kdigits' {M d u u1 u0 : Nat} (hd : 0 < d) :
    ((u * M + u1) / d) * M + (((u * M + u1) % d) * M + u0) / d = ((u * M + u1) * M + u0) / d ∧
    (((u * M + u1) % d) * M + u0) % d = ((u * M + u1) * M + u0) % d := by
  generalize hN : u * M + u1 = N
  have h1 := Nat.div_add_mod N d
  have e : N * M + u0 = ((N % d) * M + u0) + d * (N / d * M) := by
    rw [← Nat.mul_assoc]
    have h2 : (d * (N / d) + N % d) * M = N * M := by rw [h1]
    rw [Nat.add_mul] at h2
    omega
  have k1 := Nat.add_mul_div_left ((N % d) * M + u0) (N / d * M) hd
  have k2 := Nat.add_mul_mod_self_left ((N % d) * M + u0) d (N / d * M)
  rw [← e] at k1 k2
  exact ⟨by omega, k2.symm⟩

theorem kdigits {d u u1 u0 : Nat} (hd : 0 < d) :
    ((u * 4294967296 + u1) / d) * 4294967296 + (((u * 4294967296 + u1) % d) * 4294967296 + u0) / d = ((u * 4294967296 + u1) * 4294967296 + u0) / d ∧
    (((u * 4294967296 + u1) % d) * 4294967296 + u0) % d = ((u * 4294967296 + u1) * 4294967296 + u0) % d := kdigits' hd

/-- Scaled by a power of two. -/
theorem kscale (n d s : Nat) : (n * 2 ^ s) / (d * 2 ^ s) = n / d ∧ ((n * 2 ^ s) % (d * 2 ^ s)) / 2 ^ s = n % d := by
  have hp : 0 < 2 ^ s := Nat.two_pow_pos s
  refine ⟨Nat.mul_div_mul_right _ _ hp, ?_⟩
  rw [Nat.mul_mod_mul_right, Nat.mul_div_cancel _ hp]

end Go.Proofs.Ytofdlbnlfeocoaa
