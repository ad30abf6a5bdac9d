/- Doubles: rounding keeps the order; sums of whole numbers; quotients of whole numbers lie between whole numbers. -/
import Derived.Test.YthhgpoihkmokcaaDoorFOrd31
namespace Go.Proofs.YthhgpoihkmokcaaDoor
open Ieee
set_option linter.unusedVariables false

/-- To the nearest, of two the even one. -/
def cutE (n d : Nat) : Nat := n / 2 ^ d + (decide (2 ^ d < 2 * (n % 2 ^ d)) || (2 ^ d == 2 * (n % 2 ^ d) && n / 2 ^ d % 2 == 1)).toNat
theorem cut_plain (s : Bool) (n d : Nat) : Toward.even.cut s n d = cutE n d := by
  unfold Toward.cut cutE
  simp only [Nat.one_shiftLeft]
  obtain ⟨h1, h2⟩ := gap_same n d
  rw [h1, h2]
  congr 2
  by_cases h : d ≤ n.log2 + 2
  · rw [Nat.min_eq_left h]
  · rw [Nat.min_eq_right (by omega)]
    have a1 : n < 2 ^ (n.log2 + 1) := Nat.lt_log2_self
    have a2 : 2 ^ (n.log2 + 2) = 2 * 2 ^ (n.log2 + 1) := by rw [Nat.pow_succ 2 (n.log2 + 1), Nat.mul_comm]
    have a3 : 2 ^ (n.log2 + 2) ≤ 2 ^ d := Nat.pow_le_pow_right (by omega) (by omega)
    have e : n % 2 ^ d = n := Nat.mod_eq_of_lt (by omega)
    rw [e]
    have b1 : ¬ (2 ^ (n.log2 + 2) < 2 * n) := by omega
    have b2 : ¬ (2 ^ d < 2 * n) := by omega
    have b3 : ¬ (2 ^ (n.log2 + 2) = 2 * n) := by omega
    have b4 : ¬ (2 ^ d = 2 * n) := by omega
    rw [beq_eq_false_iff_ne.2 b3, beq_eq_false_iff_ne.2 b4, decide_eq_false b1, decide_eq_false b2]
theorem cutE_scale (n d p : Nat) : cutE (n * 2 ^ p) (d + p) = cutE n d := by
  have hp := Nat.two_pow_pos p
  have e1 : n * 2 ^ p / 2 ^ (d + p) = n / 2 ^ d := by rw [Nat.pow_add, Nat.mul_div_mul_right _ _ hp]
  have e2 : n * 2 ^ p % 2 ^ (d + p) = n % 2 ^ d * 2 ^ p := by rw [Nat.pow_add, Nat.mul_mod_mul_right]
  unfold cutE
  rw [e1, e2]
  have e3 : (2 ^ (d + p) < 2 * (n % 2 ^ d * 2 ^ p)) = (2 ^ d < 2 * (n % 2 ^ d)) := by
    rw [Nat.pow_add, ← Nat.mul_assoc]
    exact propext ⟨fun h => Nat.lt_of_mul_lt_mul_right h, fun h => Nat.mul_lt_mul_of_pos_right h hp⟩
  have e4 : (2 ^ (d + p) == 2 * (n % 2 ^ d * 2 ^ p)) = (2 ^ d == 2 * (n % 2 ^ d)) := by
    rw [Nat.pow_add, ← Nat.mul_assoc, Bool.eq_iff_iff]
    simp only [beq_iff_eq]
    exact ⟨fun h => Nat.eq_of_mul_eq_mul_right hp h, fun h => congrArg (fun z => z * 2 ^ p) h⟩
  rw [e4]
  simp only [e3]
theorem cutE_mono {a b : Nat} (h : a ≤ b) (d : Nat) : cutE a d ≤ cutE b d := by
  unfold cutE
  have h1 : a / 2 ^ d ≤ b / 2 ^ d := Nat.div_le_div_right h
  obtain ⟨G, hG⟩ : ∃ G, 2 ^ d = G := ⟨_, rfl⟩
  have hGp : 0 < G := hG ▸ Nat.two_pow_pos d
  rw [hG] at h1 ⊢
  have ha := Nat.div_add_mod a G
  have hb := Nat.div_add_mod b G
  have hla := Nat.mod_lt a hGp
  have hlb := Nat.mod_lt b hGp
  by_cases he : a / G = b / G
  · rw [he] at ha ⊢
    have hr : a % G ≤ b % G := by omega
    generalize a % G = x at *
    generalize b % G = y at *
    generalize b / G = q at *
    apply Nat.add_le_add_left
    by_cases c1 : G < 2 * x
    · have c2 : G < 2 * y := by omega
      simp [c1, c2]
    · by_cases c2 : G = 2 * x
      · by_cases c3 : G < 2 * y
        · simp [c3]; exact Bool.toNat_le _
        · have c4 : G = 2 * y := by omega
          have : x = y := by omega
          subst this
          exact Nat.le_refl _
      · have : (decide (G < 2 * x) || (G == 2 * x && q % 2 == 1)) = false := by simp [c1, c2]
        rw [this]; exact Nat.zero_le _
  · have : a / G + 1 ≤ b / G := by omega
    have t := Bool.toNat_le (decide (G < 2 * (a % G)) || (G == 2 * (a % G) && a / G % 2 == 1))
    omega
theorem cutE_le {X d : Nat} (h : X < 2 ^ (d + 53)) : cutE X d ≤ 9007199254740992 := by
  unfold cutE
  have h1 : X / 2 ^ d < 9007199254740992 := by
    rw [Nat.div_lt_iff_lt_mul (Nat.two_pow_pos d)]
    rw [Nat.pow_add, Nat.mul_comm] at h
    exact h
  have t := Bool.toNat_le (decide (2 ^ d < 2 * (X % 2 ^ d)) || (2 ^ d == 2 * (X % 2 ^ d) && X / 2 ^ d % 2 == 1))
  omega
theorem cutE_ge {X d : Nat} (h : 2 ^ (d + 52) ≤ X) : 4503599627370496 ≤ cutE X d := by
  unfold cutE
  have h1 : 4503599627370496 ≤ X / 2 ^ d := by
    rw [Nat.le_div_iff_mul_le (Nat.two_pow_pos d)]
    rw [Nat.pow_add, Nat.mul_comm] at h
    exact h
  omega

/-- The rung of a whole number of least places. -/
def NX (X : Nat) : Nat := if X = 0 then 0 else (X.log2 - 52) * 4503599627370496 + cutE X (X.log2 - 52)
theorem NX_mono {X Y : Nat} (h : X ≤ Y) : NX X ≤ NX Y := by
  unfold NX
  by_cases hx : X = 0
  · rw [if_pos hx]; exact Nat.zero_le _
  · have hy : Y ≠ 0 := by omega
    rw [if_neg hx, if_neg hy]
    have hl : X.log2 ≤ Y.log2 := (Nat.le_log2 hy).2 (Nat.le_trans (Nat.log2_self_le hx) h)
    have x1 : X < 2 ^ (X.log2 + 1) := Nat.lt_log2_self
    have y1 := Nat.log2_self_le hy
    obtain ⟨Lx, hLx⟩ : ∃ L, X.log2 - 52 = L := ⟨_, rfl⟩
    obtain ⟨Ly, hLy⟩ : ∃ L, Y.log2 - 52 = L := ⟨_, rfl⟩
    rw [hLx, hLy]
    by_cases he : Lx = Ly
    · subst he
      exact Nat.add_le_add_left (cutE_mono h _) _
    · have a1 := cutE_le (X := X) (d := Lx) (Nat.lt_of_lt_of_le x1 (Nat.pow_le_pow_right (by omega) (by omega)))
      have a2 := cutE_ge (X := Y) (d := Ly) (Nat.le_trans (Nat.pow_le_pow_right (by omega) (by omega)) y1)
      omega

theorem near_N (s : Bool) (mag : Nat) (place : Int) (e : Nat) (he : (e : Int) = place + 1074) : double.nearest s mag place = double.word s (min (NX (mag * 2 ^ e)) 9218868437227405312) := by
  unfold Format.nearest NX
  have hp := Nat.two_pow_pos e
  by_cases h0 : mag = 0
  · subst h0
    rw [if_pos rfl, if_pos (Nat.zero_mul _)]
    rfl
  · have hne : mag * 2 ^ e ≠ 0 := Nat.mul_ne_zero h0 (by omega)
    rw [if_neg h0, if_neg hne, log2_shift mag e h0]
    have hfb : (double.fractionBits : Int) = 52 := by decide
    simp only [hfb, db_least, db_inf, db_bin, cut_plain]
    obtain ⟨last, hlast⟩ : ∃ last, max (place + (mag.log2 : Int) - 52) (-1074) = last := ⟨_, rfl⟩
    rw [hlast]
    obtain ⟨L, hL⟩ : ∃ L, mag.log2 + e - 52 = L := ⟨_, rfl⟩
    rw [hL]
    have hl : (last - -1074).toNat = L := by omega
    have hl2 : last = (L : Int) - 1074 := by omega
    rw [hl]
    congr 3
    by_cases hc : e ≤ L
    · have e1 : (place - last).toNat = 0 := by omega
      have e2 : (last - place).toNat = L - e := by omega
      have e3 : L = (L - e) + e := by omega
      rw [e1, e2, Nat.shiftLeft_zero]
      conv => rhs; rw [e3]
      exact (cutE_scale mag (L - e) e).symm
    · have e1 : (place - last).toNat = e - L := by omega
      have e2 : (last - place).toNat = 0 := by omega
      have e3 : e = (e - L) + L := by omega
      rw [e1, e2, Nat.shiftLeft_eq]
      conv => rhs; rw [e3, Nat.pow_add, ← Nat.mul_assoc]
      have := cutE_scale (mag * 2 ^ (e - L)) 0 L
      rw [Nat.zero_add] at this
      exact this.symm

end Go.Proofs.YthhgpoihkmokcaaDoor
