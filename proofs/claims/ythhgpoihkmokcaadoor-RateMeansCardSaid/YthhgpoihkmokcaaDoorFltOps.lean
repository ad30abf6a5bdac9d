/- Doubles: what the operations give, by values. -/
import Derived.Test.YthhgpoihkmokcaaDoorFltVal
import Derived.Laws.FloatArith
namespace Go.Proofs.YthhgpoihkmokcaaDoor
open Ieee
set_option linter.unusedVariables false

theorem sgn_abs (s : Bool) (m : Nat) : (sgn s m).natAbs = m := by cases s <;> simp [sgn]
theorem sgn_zero (s : Bool) : sgn s 0 = 0 := by cases s <;> simp [sgn]

theorem log_bd (s : Bool) (m u e : Nat) (h : (sgn s m * 2 ^ u).natAbs < 2 ^ e) : m = 0 ∨ m.log2 + u < e := by
  by_cases h0 : m = 0
  · exact .inl h0
  · right
    rw [Int.natAbs_mul, sgn_abs, Int.natAbs_pow] at h
    rw [← log2_shift m u h0]
    exact (Nat.log2_lt (Nat.mul_ne_zero h0 (by simp [Nat.pow_eq_zero]))).2 h

theorem log_ge (s : Bool) (m u e : Nat) (h : 2 ^ e ≤ (sgn s m * 2 ^ u).natAbs) : m ≠ 0 ∧ e ≤ m.log2 + u := by
  rw [Int.natAbs_mul, sgn_abs, Int.natAbs_pow] at h
  have h0 : m ≠ 0 := by
    rintro rfl
    simp at h
  refine ⟨h0, ?_⟩
  rw [← log2_shift m u h0]
  exact (Nat.le_log2 (Nat.mul_ne_zero h0 (by simp [Nat.pow_eq_zero]))).2 h

theorem log_52 {m : Nat} (h : m < 9007199254740992) : m.log2 ≤ 52 := by
  by_cases h0 : m = 0
  · subst h0; decide
  · have := (Nat.log2_lt (k := 53) h0).2 (by simpa using h)
    omega

theorem one_read : double.read 4697254411347427328 = .number false 4503599627370496 (-32) := by decide +kernel

/-- Times 2^20. -/
theorem mul_val {x : Nat} {V : Int} {E : Nat} (hE : E ≤ 2000) (h : HasV x V) (hb : V.natAbs < 2 ^ E) : ∃ r, floatBits .mul .f64 x 4697254411347427328 = some r ∧ HasV r (V * 1048576) := by
  obtain ⟨s, m, i, h1, h2, h3, rfl⟩ := h.ex
  have hl := log_bd _ _ _ _ hb
  clear hb
  refine ⟨double.nearest (s ^^ false) (m * 4503599627370496) (i + -32), ?_, ?_⟩
  · show (Format.mul double x 4697254411347427328) = _
    unfold Format.mul
    rw [h1, one_read]
    rfl
  · have := write_val (s ^^ false) (m * 4503599627370496) m 52 (i + -32) (by simp) h3 (by omega) (by omega)
    have e : sgn (s ^^ false) m * 2 ^ (i + -32 + (52 : Nat) + 1074).toNat = sgn s m * 2 ^ (i + 1074).toNat * 1048576 := by
      rw [Bool.xor_false, Int.mul_assoc]
      have : (i + -32 + (52 : Nat) + 1074).toNat = (i + 1074).toNat + 20 := by omega
      rw [this, Int.pow_add]
      rfl
    rw [← e]
    exact this

/-- By 2^20, of a whole number. -/
theorem div_val {x : Nat} {V : Int} {E : Nat} (hE : E ≤ 2000) (h : HasV x V) (hb : V.natAbs < 2 ^ E) {B : Nat} (hB : 1074 ≤ B) (hlo : V = 0 ∨ 2 ^ B ≤ V.natAbs) : ∃ r V', floatBits .quo .f64 x 4697254411347427328 = some r ∧ HasV r V' ∧ V' * 1048576 = V := by
  obtain ⟨s, m, i, h1, h2, h3, rfl⟩ := h.ex
  have hl := log_bd _ _ _ _ hb
  clear hb
  have h52 := log_52 h3
  obtain ⟨mo, hmo⟩ : ∃ mo, 54 + 52 - m.log2 = mo := ⟨_, rfl⟩
  have hq : m <<< mo = m * 2 ^ (mo - 52) * 4503599627370496 := by
    rw [Nat.shiftLeft_eq, Nat.mul_assoc]
    congr 1
    rw [show (4503599627370496 : Nat) = 2 ^ 52 from by decide, ← Nat.pow_add]
    congr 1; omega
  have hqt : (Datum.number s m i).quotient 54 (.number false 4503599627370496 (-32)) = some (.number (s ^^ false) (2 * (m <<< mo / 4503599627370496) + (m <<< mo % 4503599627370496 != 0).toNat) (i - -32 - mo - 1)) := by
    have hlg : Nat.log2 4503599627370496 = 52 := by decide +kernel
    simp only [Datum.quotient, hlg, hmo]
    rfl
  have hdv : floatBits .quo .f64 x 4697254411347427328 = some (double.nearest (s ^^ false) (2 * (m <<< mo / 4503599627370496) + (m <<< mo % 4503599627370496 != 0).toNat) (i - -32 - mo - 1)) := by
    show Format.div double x 4697254411347427328 = _
    unfold Format.div
    rw [h1, one_read]
    have : double.fractionBits + 2 = 54 := by decide
    rw [this, hqt]
    rfl
  rw [hdv, hq, Nat.mul_div_cancel _ (by omega), Nat.mul_mod_left]
  clear hdv hqt hq
  have e0 : 2 * (m * 2 ^ (mo - 52)) + ((0 : Nat) != 0).toNat = m * 2 ^ (mo - 51) := by
    have : mo - 51 = (mo - 52) + 1 := by omega
    rw [this, Nat.pow_succ]
    simp
    rw [Nat.mul_comm 2, Nat.mul_assoc]
  rw [e0]
  by_cases h0 : m = 0
  · subst h0
    refine ⟨_, 0, rfl, ?_, by simp [sgn_zero]⟩
    obtain ⟨c, hc⟩ : ∃ c : Nat, c = 4000 := ⟨_, rfl⟩
    have := write_val (s ^^ false) (0 * 2 ^ (mo - 51)) 0 c (i - -32 - mo - 1) (by simp) h3 (by omega) (.inl rfl)
    simpa [sgn_zero] using this
  · have hge : 1074 ≤ m.log2 + (i + 1074).toNat := by
      rcases hlo with h | h
      · have := congrArg Int.natAbs h
        rw [Int.natAbs_mul, sgn_abs, Int.natAbs_pow] at this
        have := Nat.mul_ne_zero h0 (Nat.pos_iff_ne_zero.1 (Nat.two_pow_pos (i + 1074).toNat))
        simp_all
      · have := (log_ge _ _ _ _ h).2
        omega
    clear hlo
    refine ⟨_, sgn s m * 2 ^ (i - 20 + 1074).toNat, rfl, ?_, ?_⟩
    · have := write_val (s ^^ false) (m * 2 ^ (mo - 51)) m (mo - 51) (i - -32 - mo - 1) rfl h3 (by omega) (by omega)
      have e : (i - -32 - mo - 1 + ((mo - 51 : Nat) : Int) + 1074).toNat = (i - 20 + 1074).toNat := by omega
      rw [e, Bool.xor_false] at this
      rw [Bool.xor_false]
      exact this
    · have e : (i + 1074).toNat = (i - 20 + 1074).toNat + 20 := by omega
      rw [e, Int.pow_add, Int.mul_assoc]
      rfl

/-- The whole part. -/
theorem int_val {x : Nat} {V : Int} (h : HasV x V) : (double.read x).toInt .zero = some (V.tdiv T) := by
  obtain ⟨s, m, i, h1, h2, h3, rfl⟩ := h.ex
  rw [h1]
  simp only [Datum.toInt, Datum.integral, signed_sgn, cut_zero]
  rw [(whole_cast s m i h2).2]
  simp

theorem le_of_sgn {s : Bool} {F m G : Nat} (hG : 0 < G) (h : sgn s F = sgn s m / (G : Int)) : F ≤ m := by
  cases s
  · simp only [sgn, Bool.false_eq_true, if_false] at h
    have : F = m / G := by exact_mod_cast h
    rw [this]; exact Nat.div_le_self _ _
  · simp only [sgn, if_true] at h
    have h1 : -(m : Int) ≤ -(m : Int) / (G : Int) := by
      apply Int.le_ediv_of_mul_le (by omega)
      have : (m : Int) * 1 ≤ m * G := Int.mul_le_mul_of_nonneg_left (by omega) (by omega)
      rw [Int.neg_mul]; omega
    omega

/-- The greatest whole number not above. -/
theorem floor_val {x : Nat} {V : Int} {E : Nat} (hE : E ≤ 2000) (h : HasV x V) (hb : V.natAbs < 2 ^ E) : (∃ s m i, double.read x = .number s m i) ∧ HasV (double.write ((double.read x).integral .down)) (V / T * T) := by
  obtain ⟨s, m, i, h1, h2, h3, rfl⟩ := h.ex
  refine ⟨⟨s, m, i, h1⟩, ?_⟩
  have hl := log_bd _ _ _ _ hb
  clear hb
  rw [h1, ← (whole_cast s m i h2).1]
  simp only [Datum.integral, Format.write]
  have hc := cut_down s (m <<< i.toNat) (-i).toNat
  rw [← hc]
  obtain ⟨F, hF⟩ : ∃ F, Toward.down.cut s (m <<< i.toNat) (-i).toNat = F := ⟨_, rfl⟩
  rw [hF] at hc ⊢
  by_cases hi : 0 ≤ i
  · have e1 : (-i).toNat = 0 := by omega
    rw [e1] at hc
    have hF' : F = m * 2 ^ i.toNat := by
      have := congrArg Int.natAbs hc
      simpa [sgn_abs, Nat.shiftLeft_eq] using this
    have := write_val s F m i.toNat 0 hF' h3 (by omega) (by omega)
    have e : sgn s m * 2 ^ ((0 : Int) + (i.toNat : Nat) + 1074).toNat = sgn s F * T := by
      have : ((0 : Int) + (i.toNat : Nat) + 1074).toNat = i.toNat + 1074 := by omega
      rw [this, Int.pow_add, ← Int.mul_assoc, hF']
      unfold T
      congr 1
      cases s <;> simp [sgn, Int.neg_mul]
    rw [← e]; exact this
  · have e1 : i.toNat = 0 := by omega
    rw [e1, Nat.shiftLeft_zero] at hc
    have hFm : F ≤ m := le_of_sgn (G := 2 ^ (-i).toNat) (Nat.two_pow_pos _) (by rw [hc]; norm_cast)
    have := write_val s F F 0 0 (by simp) (by omega) (by omega) (.inr (by have := log_52 (m := F) (by omega); omega))
    exact this

/-- A whole number that a double can hold, as a double. -/
theorem ofInt_val (n : Int) (k c : Nat) (hn : n.natAbs = k * 2 ^ c) (hk : k < 9007199254740992) (hc : c ≤ 900) : HasV (floatOfInt .f64 n) (n * T) := by
  have := write_val (decide (n < 0)) n.natAbs k c 0 hn hk (by omega) (.inr (by have := log_52 hk; omega))
  have e : sgn (decide (n < 0)) k * 2 ^ ((0 : Int) + (c : Nat) + 1074).toNat = n * T := by
    have e1 : ((0 : Int) + (c : Nat) + 1074).toNat = c + 1074 := by omega
    rw [e1, Int.pow_add, ← Int.mul_assoc]
    unfold T
    congr 1
    have e2 : (k : Int) * 2 ^ c = n.natAbs := by rw [hn]; simp
    by_cases h : n < 0
    · simp only [sgn, h, decide_true, if_true, Int.neg_mul, e2]; omega
    · simp only [sgn, h, decide_false]; simp; omega
  rw [← e]
  exact this

/-- What is whole of a double's value a double can hold. -/
theorem whole_fits {x : Nat} {V : Int} {E : Nat} (hE : E ≤ 1900) (h : HasV x V) (hb : V.natAbs < 2 ^ E) : ∃ k c, (V.tdiv T).natAbs = k * 2 ^ c ∧ k < 9007199254740992 ∧ c ≤ 900 := by
  obtain ⟨s, m, i, h1, h2, h3, rfl⟩ := h.ex
  have hl := log_bd _ _ _ _ hb
  clear hb
  rw [← (whole_cast s m i h2).2]
  by_cases hi : 0 ≤ i
  · have e1 : (-i).toNat = 0 := by omega
    rw [e1]
    by_cases h0 : m = 0
    · subst h0
      exact ⟨0, 0, by simp [sgn_zero], by omega, by omega⟩
    · refine ⟨m, i.toNat, ?_, h3, by omega⟩
      simp [sgn_abs, Nat.shiftLeft_eq]
  · have e1 : i.toNat = 0 := by omega
    rw [e1, Nat.shiftLeft_zero]
    refine ⟨(Int.tdiv (sgn s m) (2 ^ (-i).toNat)).natAbs, 0, by simp, ?_, by omega⟩
    rw [Int.natAbs_tdiv, sgn_abs]
    exact Nat.lt_of_le_of_lt (Nat.div_le_self _ _) h3

end Go.Proofs.YthhgpoihkmokcaaDoor
