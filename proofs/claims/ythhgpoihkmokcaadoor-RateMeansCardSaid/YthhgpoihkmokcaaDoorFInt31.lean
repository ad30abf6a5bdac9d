/- Doubles of whole numbers: sums, quotients. -/
import Derived.Test.YthhgpoihkmokcaaDoorFMono31
import Derived.Test.YthhgpoihkmokcaaDoorText31
namespace Go.Proofs.YthhgpoihkmokcaaDoor
open Ieee
set_option linter.unusedVariables false

def E0 : Nat := 1074
theorem E0_is : (E0 : Int) = 1074 := rfl
theorem cast_pow (e : Nat) : ((2 ^ e : Nat) : Int) = 2 ^ e := by rw [Int.natCast_pow]; rfl
theorem natAbs_mp {t a : Int} {e f : Nat} (h : t * 2 ^ e = a * 2 ^ f) : t.natAbs * 2 ^ e = a.natAbs * 2 ^ f := by
  have := congrArg Int.natAbs h
  rw [Int.natAbs_mul, Int.natAbs_mul, Int.natAbs_pow, Int.natAbs_pow] at this
  exact this
theorem T_E0 : T = ((2 ^ E0 : Nat) : Int) := by
  rw [cast_pow E0]
  rfl
/-- A whole number's rung. -/
def RI (A : Nat) : Nat := min (NX (A * 2 ^ E0)) 9218868437227405312
theorem RI_mono {A B : Nat} (h : A ≤ B) : RI A ≤ RI B := by
  unfold RI
  have := NX_mono (Nat.mul_le_mul_right (2 ^ E0) h)
  omega
theorem word_parts (s : Bool) {g : Nat} (h : g ≤ 9218868437227405312) : rg (double.word s g) = g ∧ sg (double.word s g) = s ∧ nanB (double.word s g) = false := by
  have e : rg (double.word s g) = g := by
    unfold rg Format.word
    simp only [db_sw]
    cases s <;> simp <;> omega
  refine ⟨e, ?_, ?_⟩
  · unfold sg Format.word
    simp only [db_sw]
    cases s <;> simp <;> omega
  · unfold nanB
    rw [e]
    exact decide_eq_false (by omega)
theorem int_word (a : Int) : floatOfInt .f64 a = double.word (decide (a < 0)) (RI a.natAbs) :=
  near_N (decide (a < 0)) a.natAbs 0 E0 (by rw [E0_is]; omega)
theorem int_parts (a : Int) : rg (floatOfInt .f64 a) = RI a.natAbs ∧ sg (floatOfInt .f64 a) = decide (a < 0) ∧ nanB (floatOfInt .f64 a) = false := by
  rw [int_word]
  exact word_parts _ (Nat.min_le_right _ _)
theorem int_kv (a : Int) : kv (floatOfInt .f64 a) = sgn (decide (a < 0)) (RI a.natAbs) := by
  obtain ⟨h1, h2, -⟩ := int_parts a
  unfold kv
  rw [h1, h2]

theorem read_num2 {x : Nat} (h : rg x < 9218868437227405312) : ∃ m i, double.read x = .number (sg x) m i ∧ -1074 ≤ i ∧ m < 9007199254740992 ∧ m * 2 ^ (i + 1074).toNat = rv (rg x) ∧ (i = -1074 ∨ 4503599627370496 ≤ m) := by
  unfold Format.read
  simp only [db_sw, db_bin, db_inf, db_least]
  unfold rg at h
  show ∃ m i, (if x % 9223372036854775808 < 4503599627370496 then Datum.number (sg x) (x % 9223372036854775808) (-1074) else _) = _ ∧ _
  by_cases h1 : x % 9223372036854775808 < 4503599627370496
  · rw [if_pos h1]
    refine ⟨_, _, rfl, by omega, by omega, ?_, .inl rfl⟩
    unfold rg rv
    rw [if_pos h1]
    simp
  · rw [if_neg h1, if_pos h]
    refine ⟨_, _, rfl, by omega, by omega, ?_, .inr (by omega)⟩
    unfold rg rv
    rw [if_neg h1]
    congr 2
    omega
/-- What a whole number's word reads as. -/
theorem int_read (a : Int) (h : a.natAbs < 9007199254740992) : ∃ m i, double.read (floatOfInt .f64 a) = .number (decide (a < 0)) m i ∧ -1074 ≤ i ∧ m < 9007199254740992 ∧ m * 2 ^ (i + 1074).toNat = a.natAbs * 2 ^ E0 ∧ (a ≠ 0 → 4503599627370496 ≤ m) := by
  have hv := ofInt_val a a.natAbs 0 (by simp) h (by omega)
  obtain ⟨h1, h2⟩ := val_rv hv
  obtain ⟨m, i, e1, e2, e3, e4, e5⟩ := read_num2 h1
  have hp := Nat.two_pow_pos E0
  have e6 : rv (rg (floatOfInt .f64 a)) = a.natAbs * 2 ^ E0 := by
    have := congrArg Int.natAbs h2
    rw [sgn_abs, Int.natAbs_mul, T_E0] at this
    rw [← this]
    rfl
  rw [(int_parts a).2.1] at e1
  rw [e6] at e4
  refine ⟨m, i, e1, e2, e3, e4, fun ha => ?_⟩
  rcases e5 with e5 | e5
  · rw [e5] at e4
    have e7 : (-1074 + 1074 : Int).toNat = 0 := by omega
    rw [e7, Nat.pow_zero, Nat.mul_one] at e4
    have e8 : 1 ≤ a.natAbs := by omega
    have e9 : 2 ^ 53 ≤ 2 ^ E0 := Nat.pow_le_pow_right (by omega) (by decide)
    have e10 : 2 ^ E0 ≤ a.natAbs * 2 ^ E0 := Nat.le_mul_of_pos_left _ e8
    omega
  · exact e5

theorem cast_mp {m k A e : Nat} (h : m * 2 ^ k = A * 2 ^ e) : (m : Int) * 2 ^ k = (A : Int) * 2 ^ e := by
  have := congrArg (fun z : Nat => (z : Int)) h
  simp only [Int.natCast_mul, Int.natCast_pow] at this
  exact this

/-- Sums of whole numbers are exact. -/
theorem add_int (a b : Int) (ha : a.natAbs < 1099511627776) (hb : b.natAbs < 1099511627776) : floatBits .add .f64 (floatOfInt .f64 a) (floatOfInt .f64 b) = some (floatOfInt .f64 (a + b)) := by
  obtain ⟨m, i, e1, e2, e3, e4, -⟩ := int_read a (by omega)
  obtain ⟨n, j, f1, f2, f3, f4, -⟩ := int_read b (by omega)
  show Format.add double _ _ = _
  unfold Format.add
  rw [e1, f1]
  simp only [Datum.sum, Option.map_some, signed_sgn]
  obtain ⟨base, hbase⟩ : ∃ base, min i j = base := ⟨_, rfl⟩
  rw [hbase]
  obtain ⟨tot, htot⟩ : ∃ tot, sgn (decide (a < 0)) m * 2 ^ (i - base).toNat + sgn (decide (b < 0)) n * 2 ^ (j - base).toNat = tot := ⟨_, rfl⟩
  rw [htot]
  obtain ⟨e, he⟩ : ∃ e : Nat, (e : Int) = base + 1074 := ⟨(base + 1074).toNat, by omega⟩
  have hp := Nat.two_pow_pos E0
  have hpe := Nat.two_pow_pos e
  have ga : sgn (decide (a < 0)) m * 2 ^ (i - base).toNat * 2 ^ e = a * 2 ^ E0 := by
    rw [Int.mul_assoc, ← Int.pow_add]
    have x1 : (i - base).toNat + e = (i + 1074).toNat := by omega
    rw [x1]
    have x2 : ((m : Int) * 2 ^ (i + 1074).toNat) = (a.natAbs : Int) * 2 ^ E0 := cast_mp e4
    by_cases h : a < 0
    · simp only [sgn, h, decide_true, if_true, Int.neg_mul, x2]
      have : (a.natAbs : Int) = -a := by omega
      rw [this, Int.neg_mul]; omega
    · simp only [sgn, h, decide_false, Bool.false_eq_true, if_false, x2]
      have : (a.natAbs : Int) = a := by omega
      rw [this]
  have gb : sgn (decide (b < 0)) n * 2 ^ (j - base).toNat * 2 ^ e = b * 2 ^ E0 := by
    rw [Int.mul_assoc, ← Int.pow_add]
    have x1 : (j - base).toNat + e = (j + 1074).toNat := by omega
    rw [x1]
    have x2 : ((n : Int) * 2 ^ (j + 1074).toNat) = (b.natAbs : Int) * 2 ^ E0 := cast_mp f4
    by_cases h : b < 0
    · simp only [sgn, h, decide_true, if_true, Int.neg_mul, x2]
      have : (b.natAbs : Int) = -b := by omega
      rw [this, Int.neg_mul]; omega
    · simp only [sgn, h, decide_false, Bool.false_eq_true, if_false, x2]
      have : (b.natAbs : Int) = b := by omega
      rw [this]
  have gt : tot * 2 ^ e = (a + b) * 2 ^ E0 := by rw [← htot, Int.add_mul, ga, gb, Int.add_mul]
  have gn : tot.natAbs * 2 ^ e = (a + b).natAbs * 2 ^ E0 := natAbs_mp gt
  have pe : (0 : Int) < 2 ^ e := Int.pow_pos (by omega)
  have pE : (0 : Int) < 2 ^ E0 := Int.pow_pos (by omega)
  have gs : (if tot = 0 then (decide (a < 0) && decide (b < 0)) else decide (tot < 0)) = decide (a + b < 0) := by
    by_cases h0 : tot = 0
    · rw [if_pos h0]
      rw [h0, Int.zero_mul] at gt
      have h1 : a + b = 0 := by
        rcases Int.mul_eq_zero.1 gt.symm with h | h
        · exact h
        · omega
      rw [h1]
      by_cases h2 : a < 0
      · have : ¬ b < 0 := by omega
        simp [this]
      · simp [h2]
    · rw [if_neg h0]
      congr 1
      apply propext
      constructor
      · intro h
        apply Classical.byContradiction
        intro h3
        have x1 : tot * 2 ^ e < 0 := Int.mul_neg_of_neg_of_pos h pe
        have x2 : 0 ≤ (a + b) * 2 ^ E0 := Int.mul_nonneg (by omega) (by omega)
        omega
      · intro h
        apply Classical.byContradiction
        intro h3
        have x1 : 0 ≤ tot * 2 ^ e := Int.mul_nonneg (by omega) (by omega)
        have x2 : (a + b) * 2 ^ E0 < 0 := Int.mul_neg_of_neg_of_pos h pE
        omega
  rw [gs]
  congr 1
  show double.nearest _ _ _ = _
  rw [near_N _ _ _ e he, gn, int_word]
  rfl

theorem ri_le1 {c Y : Nat} (h : NX (c * 2 ^ E0) ≤ NX Y) : RI c ≤ min (NX Y) 9218868437227405312 := by unfold RI; omega
theorem ri_le2 {c Y : Nat} (h : NX Y ≤ NX (c * 2 ^ E0)) : min (NX Y) 9218868437227405312 ≤ RI c := by unfold RI; omega
theorem place_bd {m A k e : Nat} (hm : m < 9007199254740992) (hm2 : 4503599627370496 ≤ m) (h : m * 2 ^ k = A * 2 ^ e) (hA : 1 ≤ A) (hA2 : A < 1099511627776) : e < k + 53 ∧ k ≤ e := by
  constructor
  · apply Classical.byContradiction
    intro hc
    have x1 : m * 2 ^ k < 2 ^ 53 * 2 ^ k := Nat.mul_lt_mul_of_pos_right (by omega) (Nat.two_pow_pos _)
    have x2 : 2 ^ 53 * 2 ^ k ≤ 2 ^ e := by
      rw [← Nat.pow_add]
      exact Nat.pow_le_pow_right (by omega) (by omega)
    have x3 : 2 ^ e ≤ A * 2 ^ e := Nat.le_mul_of_pos_left _ hA
    omega
  · apply Classical.byContradiction
    intro hc
    have x1 : 2 ^ 52 * 2 ^ k ≤ m * 2 ^ k := Nat.mul_le_mul_right _ (by omega)
    have x2 : 2 ^ 52 * 2 ^ e ≤ 2 ^ 52 * 2 ^ k := Nat.mul_le_mul_left _ (Nat.pow_le_pow_right (by omega) (by omega))
    have x3 : A * 2 ^ e < 2 ^ 52 * 2 ^ e := Nat.mul_lt_mul_of_pos_right (by omega) (Nat.two_pow_pos _)
    omega
theorem quo_ineq {m n' A n r s g e D : Nat} (h1 : m * 2 ^ r = A * 2 ^ e) (h2 : n' * 2 ^ s = n * 2 ^ e) (h3 : s + 54 = r + g) (hD : m * 2 ^ 54 = D) (c : Nat) :
    (c * n ≤ A → c * 2 ^ g * n' ≤ D) ∧ (A ≤ c * n → D ≤ c * 2 ^ g * n') := by
  have y1 : c * n * 2 ^ e * 2 ^ 54 = c * 2 ^ g * n' * 2 ^ r := by
    rw [Nat.mul_assoc c n, ← h2, Nat.mul_assoc c, Nat.mul_assoc n', ← Nat.pow_add, h3, Nat.pow_add]
    rw [Nat.mul_comm (2 ^ r), ← Nat.mul_assoc n', Nat.mul_comm n', ← Nat.mul_assoc, ← Nat.mul_assoc]
  have y2 : A * 2 ^ e * 2 ^ 54 = D * 2 ^ r := by
    rw [← h1, ← hD, Nat.mul_assoc, Nat.mul_assoc, Nat.mul_comm (2 ^ r)]
  have pr := Nat.two_pow_pos r
  constructor
  · intro h
    have := Nat.mul_le_mul_right (2 ^ 54) (Nat.mul_le_mul_right (2 ^ e) h)
    rw [y1, y2] at this
    exact Nat.le_of_mul_le_mul_right this pr
  · intro h
    have := Nat.mul_le_mul_right (2 ^ 54) (Nat.mul_le_mul_right (2 ^ e) h)
    rw [y1, y2] at this
    exact Nat.le_of_mul_le_mul_right this pr
theorem mag_le {c g D n' : Nat} (hn : 0 < n') (h : c * 2 ^ g * n' ≤ D) : c * (2 * 2 ^ g) ≤ 2 * (D / n') + (D % n' != 0).toNat := by
  have k2 : c * 2 ^ g ≤ D / n' := (Nat.le_div_iff_mul_le hn).2 h
  have : c * (2 * 2 ^ g) = 2 * (c * 2 ^ g) := by rw [← Nat.mul_assoc, Nat.mul_comm c 2, Nat.mul_assoc]
  omega
theorem mag_ge {c g D n' : Nat} (hn : 0 < n') (h : D ≤ c * 2 ^ g * n') : 2 * (D / n') + (D % n' != 0).toNat ≤ c * (2 * 2 ^ g) := by
  have e9 : c * (2 * 2 ^ g) = 2 * (c * 2 ^ g) := by rw [← Nat.mul_assoc, Nat.mul_comm c 2, Nat.mul_assoc]
  rw [e9]
  have hdm := Nat.div_add_mod D n'
  rw [Nat.mul_comm] at hdm
  generalize c * 2 ^ g = C at *
  by_cases hz : D % n' = 0
  · have : D / n' ≤ C := Nat.le_of_mul_le_mul_right (show D / n' * n' ≤ C * n' by omega) hn
    rw [hz]
    simp
    omega
  · have : D / n' < C := Nat.lt_of_mul_lt_mul_right (a := n') (show D / n' * n' < C * n' by omega)
    have t := Bool.toNat_le (D % n' != 0)
    omega

set_option maxHeartbeats 1600000 in
/-- A quotient lies between whole numbers as it should. -/
theorem quo_nat (a : Int) (n : Nat) (hn : 1 ≤ n) (hn2 : n ≤ 1000) (ha : a.natAbs < 1099511627776) :
    ∃ q, floatBits .quo .f64 (floatOfInt .f64 a) (floatOfInt .f64 (n : Int)) = some q ∧ nanB q = false ∧ sg q = decide (a < 0) ∧ ∀ c : Nat, (c * n ≤ a.natAbs → RI c ≤ rg q) ∧ (a.natAbs ≤ c * n → rg q ≤ RI c) := by
  obtain ⟨m, i, e1, e2, e3, e4, e5⟩ := int_read a (by omega)
  obtain ⟨n', j, f1, f2, f3, f4, f5⟩ := int_read (n : Int) (by omega)
  have f5 := f5 (by omega)
  have hs : decide ((n : Int) < 0) = false := decide_eq_false (by omega)
  rw [hs] at f1
  have hna : (n : Int).natAbs = n := rfl
  rw [hna] at f4
  have hp := Nat.two_pow_pos E0
  have l2 : n'.log2 = 52 := (Nat.log2_eq_iff (by omega)).2 ⟨by omega, by omega⟩
  have hn0 : n' ≠ 0 := by omega
  obtain ⟨mo, hmo⟩ : ∃ mo, 54 + n'.log2 - m.log2 = mo := ⟨_, rfl⟩
  have e : floatBits .quo .f64 (floatOfInt .f64 a) (floatOfInt .f64 (n : Int)) = some (double.nearest (decide (a < 0)) (2 * (m * 2 ^ mo / n') + (m * 2 ^ mo % n' != 0).toNat) (i - j - mo - 1)) := by
    show Format.div double _ _ = _
    unfold Format.div
    rw [e1, f1]
    have h54 : double.fractionBits + 2 = 54 := by decide
    rw [h54]
    simp only [Datum.quotient, hn0, if_false, hmo, Nat.shiftLeft_eq, Bool.xor_false]
    rfl
  rw [e]
  by_cases h0 : a = 0
  · have hm : m = 0 := by
      rw [h0] at e4
      have : m * 2 ^ (i + 1074).toNat = 0 := by rw [e4]; simp
      rcases Nat.mul_eq_zero.1 this with h | h
      · exact h
      · have := Nat.two_pow_pos (i + 1074).toNat; omega
    subst hm h0
    have e0 : double.nearest (decide ((0 : Int) < 0)) (2 * (0 * 2 ^ mo / n') + (0 * 2 ^ mo % n' != 0).toNat) (i - j - mo - 1) = double.word false 0 := by
      simp [Format.nearest]
    rw [e0]
    obtain ⟨w1, w2, w3⟩ := word_parts false (g := 0) (by omega)
    refine ⟨_, rfl, w3, w2, fun c => ⟨fun h => ?_, fun h => by rw [w1]; exact Nat.zero_le _⟩⟩
    have : c = 0 := by
      rcases Nat.eq_zero_or_pos c with h' | h'
      · exact h'
      · have := Nat.mul_le_mul h' hn
        simp at h
        omega
    subst this
    rw [w1]
    unfold RI NX
    simp
  · have e5 := e5 h0
    have l1 : m.log2 = 52 := (Nat.log2_eq_iff (by omega)).2 ⟨by omega, by omega⟩
    have hmo54 : mo = 54 := by omega
    subst hmo54
    have hA : 1 ≤ a.natAbs := by omega
    obtain ⟨r, hr⟩ : ∃ r : Nat, (r : Int) = i + 1074 := ⟨(i + 1074).toNat, by omega⟩
    obtain ⟨s, hs'⟩ : ∃ s : Nat, (s : Int) = j + 1074 := ⟨(j + 1074).toNat, by omega⟩
    have r1 : (i + 1074).toNat = r := by omega
    have s1 : (j + 1074).toNat = s := by omega
    rw [r1] at e4
    rw [s1] at f4
    obtain ⟨b1, b2⟩ := place_bd e3 e5 e4 hA ha
    obtain ⟨b3, b4⟩ := place_bd f3 f5 f4 hn (by omega)
    have hE0 : E0 = 1074 := rfl
    obtain ⟨g, hg⟩ : ∃ g : Nat, s + 54 = r + g := ⟨s + 54 - r, by omega⟩
    have hkey := quo_ineq e4 f4 hg rfl
    obtain ⟨ee, hee⟩ : ∃ ee : Nat, (ee : Int) = i - j - (54 : Nat) - 1 + 1074 := ⟨(i - j - (54 : Nat) - 1 + 1074).toNat, by omega⟩
    have hsum : g + 1 + ee = E0 := by omega
    have hE : 2 * 2 ^ g * 2 ^ ee = 2 ^ E0 := by
      have : 2 * 2 ^ g = 2 ^ (g + 1) := by rw [Nat.pow_succ, Nat.mul_comm]
      rw [this, ← Nat.pow_add, hsum]
    rw [near_N _ _ _ ee hee]
    have hn' : 0 < n' := by omega
    clear e1 e2 e3 e4 e5 f1 f2 f3 f4 f5 l1 l2 b1 b2 b3 b4 hE0 hsum hee hg hr hs' r1 s1 e hmo hp
    generalize m * 2 ^ 54 = D at *
    obtain ⟨w1, w2, w3⟩ := word_parts (decide (a < 0)) (g := min (NX ((2 * (D / n') + (D % n' != 0).toNat) * 2 ^ ee)) 9218868437227405312) (Nat.min_le_right _ _)
    refine ⟨_, rfl, w3, w2, fun c => ⟨fun h => ?_, fun h => ?_⟩⟩
    · rw [w1]
      have k4 := Nat.mul_le_mul_right (2 ^ ee) (mag_le hn' ((hkey c).1 h))
      rw [Nat.mul_assoc, hE] at k4
      exact ri_le1 (NX_mono k4)
    · rw [w1]
      have k4 := Nat.mul_le_mul_right (2 ^ ee) (mag_ge hn' ((hkey c).2 h))
      rw [Nat.mul_assoc c, hE] at k4
      exact ri_le2 (NX_mono k4)

theorem quo_int (a : Int) (n : Nat) (hn : 1 ≤ n) (hn2 : n ≤ 1000) (ha : a.natAbs < 1099511627776) :
    ∃ q, floatBits .quo .f64 (floatOfInt .f64 a) (floatOfInt .f64 (n : Int)) = some q ∧ nanB q = false ∧ ∀ c : Int, (c * n ≤ a → kv (floatOfInt .f64 c) ≤ kv q) ∧ (a ≤ c * n → kv q ≤ kv (floatOfInt .f64 c)) := by
  obtain ⟨q, h1, h2, h3, h4⟩ := quo_nat a n hn hn2 ha
  refine ⟨q, h1, h2, fun c => ?_⟩
  obtain ⟨h5, h6⟩ := h4 c.natAbs
  have hk : kv q = sgn (decide (a < 0)) (rg q) := by unfold kv; rw [h3]
  rw [hk, int_kv]
  have hc : ((c.natAbs * n : Nat) : Int) = (c.natAbs : Int) * n := by simp
  by_cases c0 : c < 0
  · have e1 : (c.natAbs : Int) = -c := by omega
    have e2 : (c.natAbs : Int) * n = -(c * n) := by rw [e1, Int.neg_mul]
    have cn : c * n < 0 := Int.mul_neg_of_neg_of_pos c0 (by omega)
    by_cases a0 : a < 0
    · simp only [c0, a0, decide_true, sgn, if_true]
      exact ⟨fun h => by have := h6 (by omega); omega, fun h => by have := h5 (by omega); omega⟩
    · simp only [c0, a0, decide_true, decide_false, sgn, if_true, Bool.false_eq_true, if_false]
      exact ⟨fun h => by omega, fun h => by omega⟩
  · have e1 : (c.natAbs : Int) = c := by omega
    have e2 : (c.natAbs : Int) * n = c * n := by rw [e1]
    have cn : 0 ≤ c * n := Int.mul_nonneg (by omega) (by omega)
    by_cases a0 : a < 0
    · simp only [c0, a0, decide_true, decide_false, sgn, if_true, Bool.false_eq_true, if_false]
      exact ⟨fun h => by omega, fun h => by omega⟩
    · simp only [c0, a0, decide_false, sgn, Bool.false_eq_true, if_false]
      exact ⟨fun h => by have := h5 (by omega); omega, fun h => by have := h6 (by omega); omega⟩

end Go.Proofs.YthhgpoihkmokcaaDoor
