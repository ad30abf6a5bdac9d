/- FixEnds: at the ends nothing wraps: what is beyond is the nearer end: for every two numbers. -/
import Derived.Test.YtdmoacihidligaaParts
namespace Go.Proofs.Ytdmoacihidligaa
open Go.RowKit

theorem and60 (x : Int) : bits .and .i64 x 1152921504606846975 = x % 1152921504606846976 := and_mask x 60 (by omega)
theorem and10 (x : Int) : bits .and .i64 x 1023 = x % 1024 := and_mask x 10 (by omega)

theorem great_mul {x y : Int} (hx : 1125899906842624 ≤ x) (hy : 1125899906842624 ≤ y) : 1267650600228229401496703205376 ≤ x * y := by
  have h1 := Int.mul_nonneg (show 0 ≤ x - 1125899906842624 by omega) (show 0 ≤ y - 1125899906842624 by omega)
  have e : (x - 1125899906842624) * (y - 1125899906842624) = x * y - 1125899906842624 * x - 1125899906842624 * y + 1267650600228229401496703205376 := by
    rw [Int.sub_mul, Int.mul_sub, Int.mul_sub]; omega
  omega

theorem ends_plain {x y b : Int} (hx : 1125899906842624 ≤ x) (hy : 1125899906842624 ≤ y) :
    fMul x y = 9223372036854775807 ∧ fMul (-x) y = -9223372036854775808 ∧ fMul (-x) (-y) = 9223372036854775807 ∧
    fDiv x 1 = 9223372036854775807 ∧ fDiv (-x) 1 = -9223372036854775808 ∧ fDiv x (-1) = -9223372036854775808 ∧
    fWhole x = 9223372036854775807 ∧ fWhole (-x) = -9223372036854775808 ∧ fDiv 0 b = 0 ∧ fMul 0 b = 0 := by
  have h := great_mul hx hy
  refine ⟨?_, ?_, ?_, ?_, ?_, ?_, ?_, ?_, ?_, ?_⟩
  · exact clamp_above (by omega)
  · unfold fMul; rw [Int.neg_mul]; exact clamp_below (by omega)
  · unfold fMul; rw [Int.neg_mul_neg]; exact clamp_above (by omega)
  · unfold fDiv; rw [if_neg (by omega), floorDiv_pos (by omega)]; exact clamp_above (by omega)
  · unfold fDiv; rw [if_neg (by omega), floorDiv_pos (by omega)]; exact clamp_below (by omega)
  · unfold fDiv; rw [if_neg (by omega), floorDiv_neg (by omega), Int.neg_neg, Int.ediv_one]; exact clamp_below (by omega)
  · exact clamp_above (by omega)
  · exact clamp_below (by omega)
  · unfold fDiv floorDiv
    by_cases hb : b = 0
    · rw [if_pos hb]; rfl
    · rw [if_neg hb]
      by_cases hb2 : 0 < b
      · rw [if_pos hb2, Int.zero_mul, Int.zero_ediv]; rfl
      · rw [if_neg hb2, Int.zero_mul, Int.neg_zero, Int.zero_ediv]; rfl
  · unfold fMul; rw [Int.zero_mul]; rfl

theorem rw_mul {a b c : Int} {w : World} (h : Hid (fMul a b = c)) (a1 : -9223372036854775808 ≤ a) (a2 : a ≤ 9223372036854775807) (b1 : -9223372036854775808 ≤ b) (b2 : b ≤ 9223372036854775807) :
    Calls Try.prog 22 #[.int .i64 a, .int .i64 b] w fun e w' => e = .returned (.int .i64 c) ∧ w = w' := by
  have k := fMul_any a b w a1 a2 b1 b2
  rw [h.out] at k
  exact k
theorem rw_div {a b c : Int} {w : World} (h : Hid (fDiv a b = c)) (a1 : -9223372036854775808 ≤ a) (a2 : a ≤ 9223372036854775807) (b1 : -9223372036854775808 ≤ b) (b2 : b ≤ 9223372036854775807) :
    Calls Try.prog 12 #[.int .i64 a, .int .i64 b] w fun e w' => e = .returned (.int .i64 c) ∧ Dr w w' := by
  have k := fDiv_any a b w a1 a2 b1 b2
  rw [h.out] at k
  exact k
theorem rw_add {a b c : Int} {w : World} (h : Hid (fAdd a b = c)) (a1 : -9223372036854775808 ≤ a) (a2 : a ≤ 9223372036854775807) (b1 : -9223372036854775808 ≤ b) (b2 : b ≤ 9223372036854775807) :
    Calls Try.prog 23 #[.int .i64 a, .int .i64 b] w fun e w' => e = .returned (.int .i64 c) ∧ w = w' := by
  have k := fAdd_any a b w a1 a2 b1 b2
  rw [h.out] at k
  exact k
theorem rw_sub {a b c : Int} {w : World} (h : Hid (fSub a b = c)) (a1 : -9223372036854775808 ≤ a) (a2 : a ≤ 9223372036854775807) (b1 : -9223372036854775808 ≤ b) (b2 : b ≤ 9223372036854775807) :
    Calls Try.prog 24 #[.int .i64 a, .int .i64 b] w fun e w' => e = .returned (.int .i64 c) ∧ w = w' := by
  have k := fSub_any a b w a1 a2 b1 b2
  rw [h.out] at k
  exact k
theorem rw_whole {a c : Int} {w : World} (h : Hid (fWhole a = c)) (a1 : -9223372036854775808 ≤ a) (a2 : a ≤ 9223372036854775807) :
    Calls Try.prog 14 #[.int .i64 a] w fun e w' => e = .returned (.int .i64 c) ∧ w = w' := by
  have k := fWhole_any a w a1 a2
  rw [h.out] at k
  exact k
theorem rw_int {a c : Int} {w : World} (h : Hid (fInt a = c)) :
    Calls Try.prog 16 #[.int .i64 a] w fun e w' => e = .returned (.int .i64 c) ∧ w = w' := by
  have k := fInt_any a w
  rw [h.out] at k
  exact k

set_option maxHeartbeats 400000 in
theorem walk_FixEnds (a b : Int) (w0 : (Lit.int .i64 a).wf = true) (w1 : (Lit.int .i64 b).wf = true) (w : World) :
    Calls Try.prog 11 #[.int .i64 a, .int .i64 b] w fun e w' => e = .returned (.bool true) ∧ Grown w w' := by
  have b1 : -9223372036854775808 ≤ b := by simp [Lit.wf] at w1; exact w1.1
  have b2 : b ≤ 9223372036854775807 := by simp [Lit.wf] at w1; exact w1.2
  clear w0 w1
  obtain ⟨m, hm⟩ : ∃ m, bits .and .i64 a 1152921504606846975 = m := ⟨_, rfl⟩
  obtain ⟨n, hn⟩ : ∃ n, bits .and .i64 b 1152921504606846975 = n := ⟨_, rfl⟩
  have m1 : 0 ≤ m := by rw [and60] at hm; omega
  have m2 : m < 1152921504606846976 := by rw [and60] at hm; omega
  have n1 : 0 ≤ n := by rw [and60] at hn; omega
  have n2 : n < 1152921504606846976 := by rw [and60] at hn; omega
  obtain ⟨x, hx⟩ : ∃ x, 1125899906842624 + m = x := ⟨_, rfl⟩
  obtain ⟨y, hy⟩ : ∃ y, 1125899906842624 + n = y := ⟨_, rfl⟩
  have x1 : 1125899906842624 ≤ x := by omega
  have x2 : x ≤ 1154047404513689600 := by omega
  have y1 : 1125899906842624 ≤ y := by omega
  have y2 : y ≤ 1154047404513689600 := by omega
  obtain ⟨r, hr⟩ : ∃ r, bits .and .i64 x 1023 = r := ⟨_, rfl⟩
  have r1 : 0 ≤ r := by rw [and10] at hr; omega
  have r2 : r < 1024 := by rw [and10] at hr; omega
  obtain ⟨g, hg⟩ : ∃ g, 9223372036854775807 - r = g := ⟨_, rfl⟩
  have g1 : 9223372036854774784 ≤ g := by omega
  have g2 : g ≤ 9223372036854775807 := by omega
  obtain ⟨k1, k2, k3, k4, k5, k6, k7, k8, k9, k10⟩ := ends_plain (b := b) x1 y1
  have k11 : fAdd g x = 9223372036854775807 := clamp_above (by omega)
  have k12 : fSub (-g) x = -9223372036854775808 := clamp_below (by omega)
  have K1 := Lib.hid k1
  have K2 := Lib.hid k2
  have K3 := Lib.hid k3
  have K4 := Lib.hid k4
  have K5 := Lib.hid k5
  have K6 := Lib.hid k6
  have K7 := Lib.hid k7
  have K8 := Lib.hid k8
  have K9 := Lib.hid k9
  have K10 := Lib.hid k10
  have K11 := Lib.hid k11
  have K12 := Lib.hid k12
  clear k1 k2 k3 k4 k5 k6 k7 k8 k9 k10 k11 k12
  go_enter Try.func11, Try.ntmps11
  go_wp2_with fail
  refine (told_any _).mono ?_
  rintro e w2 ⟨rfl, hw2⟩
  have Hw0 := Lib.hid hw2
  clear hw2
  go_wp2_with fail
  refine (rw_mul K1 (by omega) (by omega) (by omega) (by omega)).mono ?_
  rintro e w' ⟨rfl, rfl⟩
  go_wp2_with fail
  refine (rw_mul K2 (by omega) (by omega) (by omega) (by omega)).mono ?_
  rintro e w' ⟨rfl, rfl⟩
  go_wp2_with fail
  refine (rw_mul K3 (by omega) (by omega) (by omega) (by omega)).mono ?_
  rintro e w' ⟨rfl, rfl⟩
  go_wp2_with fail
  refine (rw_add K11 (by omega) (by omega) (by omega) (by omega)).mono ?_
  rintro e w' ⟨rfl, rfl⟩
  go_wp2_with fail
  refine (rw_sub K12 (by omega) (by omega) (by omega) (by omega)).mono ?_
  rintro e w' ⟨rfl, rfl⟩
  go_wp2_with fail
  refine (rw_div K4 (by omega) (by omega) (by omega) (by omega)).mono ?_
  rintro e w1 ⟨rfl, hw1⟩
  have Hw1 := Lib.hid (Hw0.out.trans hw1)
  clear hw1 Hw0
  go_wp2_with fail
  refine (rw_div K5 (by omega) (by omega) (by omega) (by omega)).mono ?_
  rintro e w2 ⟨rfl, hw1⟩
  have Hw2 := Lib.hid (Hw1.out.trans hw1)
  clear hw1 Hw1
  go_wp2_with fail
  refine (rw_div K6 (by omega) (by omega) (by omega) (by omega)).mono ?_
  rintro e w3 ⟨rfl, hw1⟩
  have Hw3 := Lib.hid (Hw2.out.trans hw1)
  clear hw1 Hw2
  go_wp2_with fail
  refine (rw_whole K7 (by omega) (by omega)).mono ?_
  rintro e w' ⟨rfl, rfl⟩
  go_wp2_with fail
  refine (rw_whole K8 (by omega) (by omega)).mono ?_
  rintro e w' ⟨rfl, rfl⟩
  go_wp2_with fail
  refine (rw_div K9 (by omega) (by omega) (by omega) (by omega)).mono ?_
  rintro e w4 ⟨rfl, hw1⟩
  have Hw4 := Lib.hid (Hw3.out.trans hw1)
  clear hw1 Hw3
  go_wp2_with fail
  refine (rw_mul K10 (by omega) (by omega) (by omega) (by omega)).mono ?_
  rintro e w' ⟨rfl, rfl⟩
  go_wp2_with fail
  go_ret
  exact ⟨rfl, Hw4.out.grown⟩

end Go.Proofs.Ytdmoacihidligaa
