/- FixOrder: nothing wraps: greater numbers have sums, products and quotients that are no lesser: for every three numbers. -/
import Derived.Test.YtdmoacihidligaaEnds
namespace Go.Proofs.Ytdmoacihidligaa
open Go.RowKit

theorem mul_mono_pos {x y c : Int} (h : x ≤ y) (hc : 0 < c) : fMul x c ≤ fMul y c :=
  clamp_mono (Int.ediv_le_ediv (by omega) (Int.mul_le_mul_of_nonneg_right h (by omega)))
theorem mul_mono_neg {x y c : Int} (h : x ≤ y) (hc : c < 0) : fMul y c ≤ fMul x c := by
  refine clamp_mono (Int.ediv_le_ediv (by omega) ?_)
  exact Int.mul_le_mul_of_nonpos_right h (by omega)
theorem div_mono_pos {x y c : Int} (h : x ≤ y) (hc : 0 < c) : fDiv x c ≤ fDiv y c := by
  unfold fDiv
  rw [if_neg (by omega), if_neg (by omega), floorDiv_pos hc, floorDiv_pos hc]
  exact clamp_mono (Int.ediv_le_ediv hc (by omega))
theorem div_mono_neg {x y c : Int} (h : x ≤ y) (hc : c < 0) : fDiv y c ≤ fDiv x c := by
  unfold fDiv
  rw [if_neg (by omega), if_neg (by omega), floorDiv_neg (by omega), floorDiv_neg (by omega)]
  exact clamp_mono (Int.ediv_le_ediv (by omega) (by omega))

set_option maxHeartbeats 3200000 in
theorem walk_FixOrder (a b c : Int) (w0 : (Lit.int .i64 a).wf = true) (w1 : (Lit.int .i64 b).wf = true) (w2 : (Lit.int .i64 c).wf = true) (w : World) :
    Calls Try.prog 10 #[.int .i64 a, .int .i64 b, .int .i64 c] w fun e w' => e = .returned (.bool true) ∧ Grown w w' := by
  have a1 : -9223372036854775808 ≤ a := by simp [Lit.wf] at w0; exact w0.1
  have a2 : a ≤ 9223372036854775807 := by simp [Lit.wf] at w0; exact w0.2
  have b1 : -9223372036854775808 ≤ b := by simp [Lit.wf] at w1; exact w1.1
  have b2 : b ≤ 9223372036854775807 := by simp [Lit.wf] at w1; exact w1.2
  have c1 : -9223372036854775808 ≤ c := by simp [Lit.wf] at w2; exact w2.1
  have c2 : c ≤ 9223372036854775807 := by simp [Lit.wf] at w2; exact w2.2
  clear w0 w1 w2
  obtain ⟨x, hx⟩ : ∃ x, min a b = x := ⟨_, rfl⟩
  obtain ⟨y, hy⟩ : ∃ y, max a b = y := ⟨_, rfl⟩
  have hxy : x ≤ y := by omega
  have x1 : -9223372036854775808 ≤ x := by omega
  have y2 : y ≤ 9223372036854775807 := by omega
  have x2 : x ≤ 9223372036854775807 := by omega
  have y1 : -9223372036854775808 ≤ y := by omega
  have o1 : fAdd x c ≤ fAdd y c := clamp_mono (by omega)
  have o2 : fSub x c ≤ fSub y c := clamp_mono (by omega)
  have o3 : fSub c y ≤ fSub c x := clamp_mono (by omega)
  have o4 : fWhole x ≤ fWhole y := clamp_mono (by omega)
  have o5 : fInt x ≤ fInt y := Int.ediv_le_ediv (by omega) hxy
  obtain ⟨m, k1⟩ : ∃ m, fMul a b = m := ⟨_, rfl⟩
  have k2 : fMul b a = m := by rw [← k1]; unfold fMul; rw [Int.mul_comm]
  obtain ⟨s, k3⟩ : ∃ s, fAdd a b = s := ⟨_, rfl⟩
  have k4 : fAdd b a = s := by rw [← k3]; unfold fAdd; rw [Int.add_comm]
  have k5 : fMul a 1048576 = a := by unfold fMul; rw [clamp_in (by omega) (by omega)]; omega
  have k6 : fDiv a 1048576 = a := by unfold fDiv; rw [if_neg (by omega), floorDiv_pos (by omega), clamp_in (by omega) (by omega)]; omega
  have K1 := Lib.hid k1
  have K2 := Lib.hid k2
  have K3 := Lib.hid k3
  have K4 := Lib.hid k4
  have K5 := Lib.hid k5
  have K6 := Lib.hid k6
  clear k1 k2 k3 k4 k5 k6
  rcases Int.lt_trichotomy c 0 with hc | hc | hc
  · have o6 := mul_mono_neg hxy hc
    have o7 := div_mono_neg hxy hc
    have hc' : ¬ 0 < c := by omega
    go_enter Try.func10, Try.ntmps10
    go_wp2_with fail
    refine (fAdd_any x c _ x1 x2 c1 c2).mono ?_
    rintro e w' ⟨rfl, rfl⟩
    go_wp2_with fail
    refine (fAdd_any y c _ y1 y2 c1 c2).mono ?_
    rintro e w' ⟨rfl, rfl⟩
    go_wp2_with fail
    refine (fSub_any x c _ x1 x2 c1 c2).mono ?_
    rintro e w' ⟨rfl, rfl⟩
    go_wp2_with fail
    refine (fSub_any y c _ y1 y2 c1 c2).mono ?_
    rintro e w' ⟨rfl, rfl⟩
    go_wp2_with fail
    refine (fSub_any c x _ c1 c2 x1 x2).mono ?_
    rintro e w' ⟨rfl, rfl⟩
    go_wp2_with fail
    refine (fSub_any c y _ c1 c2 y1 y2).mono ?_
    rintro e w' ⟨rfl, rfl⟩
    go_wp2_with fail
    refine (fWhole_any x _ x1 x2).mono ?_
    rintro e w' ⟨rfl, rfl⟩
    go_wp2_with fail
    refine (fWhole_any y _ y1 y2).mono ?_
    rintro e w' ⟨rfl, rfl⟩
    go_wp2_with fail
    refine (fInt_any x _).mono ?_
    rintro e w' ⟨rfl, rfl⟩
    go_wp2_with fail
    refine (fInt_any y _).mono ?_
    rintro e w' ⟨rfl, rfl⟩
    go_wp2_with fail
    refine (fMul_any x c _ x1 x2 c1 c2).mono ?_
    rintro e w' ⟨rfl, rfl⟩
    go_wp2_with fail
    refine (fMul_any y c _ y1 y2 c1 c2).mono ?_
    rintro e w' ⟨rfl, rfl⟩
    go_wp2_with fail
    refine (fDiv_any x c _ x1 x2 c1 c2).mono ?_
    rintro e w1 ⟨rfl, hw⟩
    have Hw1 := Lib.hid hw
    clear hw
    go_wp2_with fail
    refine (fDiv_any y c _ y1 y2 c1 c2).mono ?_
    rintro e w2 ⟨rfl, hw⟩
    have Hw2 := Lib.hid (Hw1.out.trans hw)
    clear hw Hw1
    go_wp2_with fail
    refine (told_any _).mono ?_
    rintro e w3 ⟨rfl, hw⟩
    have Hw3 := Lib.hid (Hw2.out.trans hw)
    clear hw Hw2
    go_wp2_with fail
    refine (rw_mul K1 a1 a2 b1 b2).mono ?_
    rintro e w' ⟨rfl, rfl⟩
    go_wp2_with fail
    refine (rw_mul K2 b1 b2 a1 a2).mono ?_
    rintro e w' ⟨rfl, rfl⟩
    go_wp2_with fail
    refine (rw_add K3 a1 a2 b1 b2).mono ?_
    rintro e w' ⟨rfl, rfl⟩
    go_wp2_with fail
    refine (rw_add K4 b1 b2 a1 a2).mono ?_
    rintro e w' ⟨rfl, rfl⟩
    go_wp2_with fail
    refine (rw_mul K5 a1 a2 (by omega) (by omega)).mono ?_
    rintro e w' ⟨rfl, rfl⟩
    go_wp2_with fail
    refine (rw_div K6 a1 a2 (by omega) (by omega)).mono ?_
    rintro e w4 ⟨rfl, hw⟩
    have Hw4 := Lib.hid (Hw3.out.trans hw)
    clear hw Hw3
    go_wp2_with fail
    go_ret
    exact ⟨rfl, Hw4.out.grown⟩
  · have hc1 : ¬ 0 < c := by omega
    have hc2 : ¬ c < 0 := by omega
    clear hc
    have Hw2 := Lib.hid (Dr.refl w)
    go_enter Try.func10, Try.ntmps10
    go_wp2_with fail
    refine (fAdd_any x c _ x1 x2 c1 c2).mono ?_
    rintro e w' ⟨rfl, rfl⟩
    go_wp2_with fail
    refine (fAdd_any y c _ y1 y2 c1 c2).mono ?_
    rintro e w' ⟨rfl, rfl⟩
    go_wp2_with fail
    refine (fSub_any x c _ x1 x2 c1 c2).mono ?_
    rintro e w' ⟨rfl, rfl⟩
    go_wp2_with fail
    refine (fSub_any y c _ y1 y2 c1 c2).mono ?_
    rintro e w' ⟨rfl, rfl⟩
    go_wp2_with fail
    refine (fSub_any c x _ c1 c2 x1 x2).mono ?_
    rintro e w' ⟨rfl, rfl⟩
    go_wp2_with fail
    refine (fSub_any c y _ c1 c2 y1 y2).mono ?_
    rintro e w' ⟨rfl, rfl⟩
    go_wp2_with fail
    refine (fWhole_any x _ x1 x2).mono ?_
    rintro e w' ⟨rfl, rfl⟩
    go_wp2_with fail
    refine (fWhole_any y _ y1 y2).mono ?_
    rintro e w' ⟨rfl, rfl⟩
    go_wp2_with fail
    refine (fInt_any x _).mono ?_
    rintro e w' ⟨rfl, rfl⟩
    go_wp2_with fail
    refine (fInt_any y _).mono ?_
    rintro e w' ⟨rfl, rfl⟩
    go_wp2_with fail
    refine (told_any _).mono ?_
    rintro e w3 ⟨rfl, hw⟩
    have Hw3 := Lib.hid (Hw2.out.trans hw)
    clear hw Hw2
    go_wp2_with fail
    refine (rw_mul K1 a1 a2 b1 b2).mono ?_
    rintro e w' ⟨rfl, rfl⟩
    go_wp2_with fail
    refine (rw_mul K2 b1 b2 a1 a2).mono ?_
    rintro e w' ⟨rfl, rfl⟩
    go_wp2_with fail
    refine (rw_add K3 a1 a2 b1 b2).mono ?_
    rintro e w' ⟨rfl, rfl⟩
    go_wp2_with fail
    refine (rw_add K4 b1 b2 a1 a2).mono ?_
    rintro e w' ⟨rfl, rfl⟩
    go_wp2_with fail
    refine (rw_mul K5 a1 a2 (by omega) (by omega)).mono ?_
    rintro e w' ⟨rfl, rfl⟩
    go_wp2_with fail
    refine (rw_div K6 a1 a2 (by omega) (by omega)).mono ?_
    rintro e w4 ⟨rfl, hw⟩
    have Hw4 := Lib.hid (Hw3.out.trans hw)
    clear hw Hw3
    go_wp2_with fail
    go_ret
    exact ⟨rfl, Hw4.out.grown⟩
  · have o6 := mul_mono_pos hxy hc
    have o7 := div_mono_pos hxy hc
    have hc' : ¬ c < 0 := by omega
    go_enter Try.func10, Try.ntmps10
    go_wp2_with fail
    refine (fAdd_any x c _ x1 x2 c1 c2).mono ?_
    rintro e w' ⟨rfl, rfl⟩
    go_wp2_with fail
    refine (fAdd_any y c _ y1 y2 c1 c2).mono ?_
    rintro e w' ⟨rfl, rfl⟩
    go_wp2_with fail
    refine (fSub_any x c _ x1 x2 c1 c2).mono ?_
    rintro e w' ⟨rfl, rfl⟩
    go_wp2_with fail
    refine (fSub_any y c _ y1 y2 c1 c2).mono ?_
    rintro e w' ⟨rfl, rfl⟩
    go_wp2_with fail
    refine (fSub_any c x _ c1 c2 x1 x2).mono ?_
    rintro e w' ⟨rfl, rfl⟩
    go_wp2_with fail
    refine (fSub_any c y _ c1 c2 y1 y2).mono ?_
    rintro e w' ⟨rfl, rfl⟩
    go_wp2_with fail
    refine (fWhole_any x _ x1 x2).mono ?_
    rintro e w' ⟨rfl, rfl⟩
    go_wp2_with fail
    refine (fWhole_any y _ y1 y2).mono ?_
    rintro e w' ⟨rfl, rfl⟩
    go_wp2_with fail
    refine (fInt_any x _).mono ?_
    rintro e w' ⟨rfl, rfl⟩
    go_wp2_with fail
    refine (fInt_any y _).mono ?_
    rintro e w' ⟨rfl, rfl⟩
    go_wp2_with fail
    refine (fMul_any x c _ x1 x2 c1 c2).mono ?_
    rintro e w' ⟨rfl, rfl⟩
    go_wp2_with fail
    refine (fMul_any y c _ y1 y2 c1 c2).mono ?_
    rintro e w' ⟨rfl, rfl⟩
    go_wp2_with fail
    refine (fDiv_any x c _ x1 x2 c1 c2).mono ?_
    rintro e w1 ⟨rfl, hw⟩
    have Hw1 := Lib.hid hw
    clear hw
    go_wp2_with fail
    refine (fDiv_any y c _ y1 y2 c1 c2).mono ?_
    rintro e w2 ⟨rfl, hw⟩
    have Hw2 := Lib.hid (Hw1.out.trans hw)
    clear hw Hw1
    go_wp2_with fail
    refine (told_any _).mono ?_
    rintro e w3 ⟨rfl, hw⟩
    have Hw3 := Lib.hid (Hw2.out.trans hw)
    clear hw Hw2
    go_wp2_with fail
    refine (rw_mul K1 a1 a2 b1 b2).mono ?_
    rintro e w' ⟨rfl, rfl⟩
    go_wp2_with fail
    refine (rw_mul K2 b1 b2 a1 a2).mono ?_
    rintro e w' ⟨rfl, rfl⟩
    go_wp2_with fail
    refine (rw_add K3 a1 a2 b1 b2).mono ?_
    rintro e w' ⟨rfl, rfl⟩
    go_wp2_with fail
    refine (rw_add K4 b1 b2 a1 a2).mono ?_
    rintro e w' ⟨rfl, rfl⟩
    go_wp2_with fail
    refine (rw_mul K5 a1 a2 (by omega) (by omega)).mono ?_
    rintro e w' ⟨rfl, rfl⟩
    go_wp2_with fail
    refine (rw_div K6 a1 a2 (by omega) (by omega)).mono ?_
    rintro e w4 ⟨rfl, hw⟩
    have Hw4 := Lib.hid (Hw3.out.trans hw)
    clear hw Hw3
    go_wp2_with fail
    go_ret
    exact ⟨rfl, Hw4.out.grown⟩

end Go.Proofs.Ytdmoacihidligaa
