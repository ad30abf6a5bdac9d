/- Doubles: what is written of a number that a double can hold reads as that number. -/
import GoSem.Core.Float
namespace Go.Proofs.YthhgpoihkmokcaaDoor
open Ieee

theorem db_sw : double.signWeight = 9223372036854775808 := by decide
theorem db_bin : double.binade = 4503599627370496 := by decide
theorem db_inf : double.infRung = 9218868437227405312 := by decide
theorem db_least : double.leastPlace = -1074 := by decide

theorem read_word (neg : Bool) (L k : Nat) (hk : k < 9007199254740992) (hL : L = 0 ∨ 4503599627370496 ≤ k) (h : L * 4503599627370496 + k < 9218868437227405312) :
    double.read (double.word neg (L * 4503599627370496 + k)) = .number neg k (-1074 + L) := by
  unfold Format.read Format.word
  simp only [db_sw, db_bin, db_inf, db_least]
  have e1 : ((if neg = true then 9223372036854775808 + (L * 4503599627370496 + k) else L * 4503599627370496 + k) / 9223372036854775808 % 2 == 1) = neg := by
    cases neg <;> simp <;> omega
  have e2 : (if neg = true then 9223372036854775808 + (L * 4503599627370496 + k) else L * 4503599627370496 + k) % 9223372036854775808 = L * 4503599627370496 + k := by
    cases neg <;> simp <;> omega
  rw [e1, e2]
  by_cases h0 : L * 4503599627370496 + k < 4503599627370496
  · rw [if_pos h0]
    have : L = 0 := by omega
    subst this
    simp
  · rw [if_neg h0, if_pos h]
    have a1 : 4503599627370496 + (L * 4503599627370496 + k) % 4503599627370496 = k := by omega
    have a2 : (L * 4503599627370496 + k) / 4503599627370496 - 1 = L := by omega
    rw [a1, a2]

theorem log2_shift (k c : Nat) (hk : k ≠ 0) : (k * 2 ^ c).log2 = k.log2 + c := by
  have h0 : k * 2 ^ c ≠ 0 := Nat.mul_ne_zero hk (by simp [Nat.pow_eq_zero])
  have hk1 := Nat.log2_self_le hk
  have hk2 := @Nat.lt_log2_self k
  rw [Nat.log2_eq_iff h0, Nat.pow_add, Nat.add_right_comm, Nat.pow_add]
  exact ⟨Nat.mul_le_mul_right _ hk1, Nat.mul_lt_mul_of_pos_right hk2 (Nat.two_pow_pos c)⟩

theorem cut_even_exact (neg : Bool) (q d : Nat) (hq : q ≠ 0) : Toward.even.cut neg (q * 2 ^ d) d = q := by
  unfold Toward.cut
  have h1 : min d ((q * 2 ^ d).log2 + 2) = d := by rw [log2_shift q d hq]; omega
  simp only [h1, Nat.one_shiftLeft]
  have hp := Nat.two_pow_pos d
  have h2 : q * 2 ^ d / 2 ^ d = q := Nat.mul_div_cancel _ hp
  have h3 : q * 2 ^ d % 2 ^ d = 0 := Nat.mul_mod_left _ _
  rw [h2, h3]
  have h4 : (2 ^ d == 2 * 0) = false := by simp
  simp [h4]

/-- What a double can hold is written as it is. -/
theorem nearest_exact (s : Bool) (mag k c : Nat) (place : Int) (hm : mag = k * 2 ^ c) (hk0 : k ≠ 0) (hk : k < 9007199254740992) (hlo : -1074 ≤ place + c) (hhi : place + c + k.log2 ≤ 1023) :
    ∃ (q : Nat) (i : Int), double.read (double.nearest s mag place) = .number s q i ∧ -1074 ≤ i ∧ i ≤ place + c ∧ q = k * 2 ^ (place + c - i).toNat ∧ q < 9007199254740992 := by
  subst hm
  have hlk : k.log2 ≤ 52 := by
    have h53 : k < 2 ^ 53 := by simpa using hk
    have := (Nat.log2_lt hk0).2 h53
    omega
  have hm0 : k * 2 ^ c ≠ 0 := Nat.mul_ne_zero hk0 (by simp [Nat.pow_eq_zero])
  unfold Format.nearest
  rw [if_neg hm0, log2_shift k c hk0]
  have hfb : (double.fractionBits : Int) = 52 := by decide
  simp only [hfb, db_least, db_inf, db_bin]
  obtain ⟨last, hlast⟩ : ∃ last, max (place + ((k.log2 + c : Nat) : Int) - 52) (-1074) = last := ⟨_, rfl⟩
  rw [hlast]
  have b1 : -1074 ≤ last := by omega
  have b2 : last ≤ place + c := by omega
  obtain ⟨t, ht⟩ : ∃ t : Nat, (place + c - last).toNat = t := ⟨_, rfl⟩
  have hkept : Toward.even.cut s ((k * 2 ^ c) <<< (place - last).toNat) (last - place).toNat = k * 2 ^ t := by
    by_cases hp : last ≤ place
    · have e1 : (last - place).toNat = 0 := by omega
      have e2 : t = c + (place - last).toNat := by omega
      rw [e1, Nat.shiftLeft_eq, Nat.mul_assoc, ← Nat.pow_add, ← e2]
      have := cut_even_exact s (k * 2 ^ t) 0 (Nat.mul_ne_zero hk0 (by simp [Nat.pow_eq_zero]))
      simpa using this
    · have e1 : (place - last).toNat = 0 := by omega
      have e2 : c = t + (last - place).toNat := by omega
      rw [e1, Nat.shiftLeft_zero]
      obtain ⟨d, hd⟩ : ∃ d, (last - place).toNat = d := ⟨_, rfl⟩
      rw [hd] at e2 ⊢
      rw [e2, Nat.pow_add, ← Nat.mul_assoc]
      exact cut_even_exact s (k * 2 ^ t) d (Nat.mul_ne_zero hk0 (by simp [Nat.pow_eq_zero]))
  rw [hkept]
  have hq0 : k * 2 ^ t ≠ 0 := Nat.mul_ne_zero hk0 (by simp [Nat.pow_eq_zero])
  have hlt : (k * 2 ^ t).log2 = k.log2 + t := log2_shift k t hk0
  have hq : k * 2 ^ t < 9007199254740992 := by
    have : k * 2 ^ t < 2 ^ 53 := (Nat.log2_lt hq0).1 (by rw [hlt]; omega)
    simpa using this
  have hL : (last - -1074).toNat = 0 ∨ 4503599627370496 ≤ k * 2 ^ t := by
    by_cases h0 : last = -1074
    · left; omega
    · right
      have h52 : (k * 2 ^ t).log2 = 52 := by rw [hlt]; omega
      have := Nat.log2_self_le hq0
      rw [h52] at this
      simpa using this
  have hmin : (last - -1074).toNat * 4503599627370496 + k * 2 ^ t < 9218868437227405312 := by omega
  rw [Nat.min_eq_left (Nat.le_of_lt hmin), read_word s _ _ hq hL hmin]
  refine ⟨k * 2 ^ t, -1074 + ((last - -1074).toNat : Int), rfl, by omega, by omega, ?_, hq⟩
  congr 2
  omega

end Go.Proofs.YthhgpoihkmokcaaDoor
