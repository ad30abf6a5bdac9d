/- PacerPays: what is to be scanned is scanned by the time the goal is come to, as long as the ratio is not cut: for every two numbers. -/
import Derived.Test.YtbbhgcabebjlhaaTold23
namespace Go.Proofs.Ytbbhgcabebjlhaa
open Go.RowKit
set_option linter.unusedVariables false

/-- The ratio of s words to be scanned over a way of w. -/
theorem pays_ratio (s w : Int) (s1 : 0 ≤ s) (s2 : s < 1048576) (w1 : 1 ≤ w) (w2 : w ≤ 1048576) :
    ratioV s 1000 (1000 + w) = bnd 131072 67108864 ((s + 64) * 1048576 / w) := by
  unfold ratioV
  have e1 : fAdd (max s 0) 64 = s + 64 := by unfold fAdd; rw [clamp_in (by omega) (by omega)]; omega
  have e2 : max (fSub (1000 + w) 1000) 1 = w := by unfold fSub; rw [clamp_in (by omega) (by omega)]; omega
  have e3 : fWhole (s + 64) = (s + 64) * 1048576 := clamp_in (by omega) (by omega)
  have e4 : fWhole w = w * 1048576 := clamp_in (by omega) (by omega)
  rw [e1, e2, e3, e4]
  unfold fDiv
  rw [if_neg (by omega), floorDiv_pos (by omega), Int.mul_ediv_mul_of_pos_left _ _ (by omega)]
  have hb := ediv_bd (n := (s + 64) * 1048576) (y := w) (B := 1099578736640) w1 (by omega) (by omega) (by omega)
  rw [clamp_in (by omega) (by omega)]

/-- What each ratio pays. -/
theorem pays_plain (s w q r : Int) (s1 : 0 ≤ s) (s2 : s < 1048576) (w1 : 1 ≤ w) (w2 : w ≤ 1048576) (hq : (s + 64) * 1048576 / w = q) (hr : bnd 131072 67108864 q = r) :
    (r = 67108864 → w ≤ (s + 64) / 64) ∧ (r = 131072 → 8 * (s + 64) ≤ w + 8) ∧
    (¬ r = 67108864 → ¬ r = 131072 → fInt (fMul (fWhole w) r) ≤ s + 64 ∧ s + 64 - 1 - w / 1048576 ≤ fInt (fMul (fWhole w) r) ∧ 0 ≤ fInt (fMul (fWhole w) r)) := by
  have h1 := Int.ediv_mul_le ((s + 64) * 1048576) (show w ≠ 0 by omega)
  have h2 := Int.lt_ediv_add_one_mul_self ((s + 64) * 1048576) (show 0 < w by omega)
  rw [hq] at h1 h2
  rw [Int.add_mul q, Int.one_mul] at h2
  unfold bnd at hr
  refine ⟨fun h => ?_, fun h => ?_, fun h h' => ?_⟩
  · have h3 : 67108864 * w ≤ q * w := Int.mul_le_mul_of_nonneg_right (by omega) (by omega)
    omega
  · have h3 : q * w ≤ 131072 * w := Int.mul_le_mul_of_nonneg_right (by omega) (by omega)
    omega
  · have e : r = q := by omega
    have q1 : 0 ≤ q := by omega
    have q2 : q ≤ 67108864 := by omega
    have h3 := Int.mul_nonneg (show 0 ≤ w by omega) q1
    have h4 : w * q ≤ 1048576 * 67108864 := Int.mul_le_mul w2 q2 q1 (by omega)
    have e1 : fWhole w = w * 1048576 := clamp_in (by omega) (by omega)
    have e2 : w * 1048576 * q / 1048576 = w * q := by
      rw [Int.mul_assoc, Int.mul_comm 1048576, ← Int.mul_assoc]
      exact Int.mul_ediv_cancel _ (by omega)
    have e3 : fMul (fWhole w) r = w * q := by
      rw [e1, e]
      unfold fMul
      rw [e2, clamp_in (by omega) (by omega)]
    rw [e3]
    unfold fInt
    rw [Int.mul_comm w q] at *
    omega

set_option maxHeartbeats 1600000 in
theorem walk_PacerPays (scan way : Int) (_w0 : (Lit.int .i64 scan).wf = true) (_w1 : (Lit.int .i64 way).wf = true) (w : World) :
    Calls Try.prog 6 #[.int .i64 scan, .int .i64 way] w fun e w' => e = .returned (.bool true) ∧ Below w.heap.size w w' := by
  clear _w0 _w1
  obtain ⟨s, hs⟩ : ∃ r, (IntKind.u64.wrap scan).tmod 1048576 = r := ⟨_, rfl⟩
  obtain ⟨s1, s2⟩ := umod_bd scan 1048576 (by omega)
  rw [hs] at s1 s2
  obtain ⟨k, hk⟩ : ∃ r, (IntKind.u64.wrap way).tmod 1048576 = r := ⟨_, rfl⟩
  obtain ⟨k1, k2⟩ := umod_bd way 1048576 (by omega)
  rw [hk] at k1 k2
  obtain ⟨W, hW⟩ : ∃ x, 1 + k = x := ⟨_, rfl⟩
  have W1 : 1 ≤ W := by omega
  have W2 : W ≤ 1048576 := by omega
  have hr := pays_ratio s W s1 s2 W1 W2
  obtain ⟨q, hq⟩ : ∃ x, (s + 64) * 1048576 / W = x := ⟨_, rfl⟩
  rw [hq] at hr
  obtain ⟨r, hr'⟩ : ∃ x, bnd 131072 67108864 q = x := ⟨_, rfl⟩
  rw [hr'] at hr
  obtain ⟨p1, p2, p3⟩ := pays_plain s W q r s1 s2 W1 W2 hq hr'
  have r1 : 131072 ≤ r := by rw [← hr']; exact (bnd_le _ _ _ (by omega)).1
  have r2 : r ≤ 67108864 := by rw [← hr']; exact (bnd_le _ _ _ (by omega)).2
  have Hr := Lib.hid hr
  clear hr hr' hq
  by_cases c1 : r = 67108864
  · have p4 := p1 c1
    have c1' : (r == 67108864) = true := by simpa using c1
    have C1 := Lib.hid c1
    clear p1 p2 p3 c1
    go_enter Try.func6, Try.ntmps6
    go_wp2_with fail
    refine (kratio Hr.out (by omega) (by omega) (by omega) (by omega) (by omega) (by omega)).mono ?_
    rintro e w1 ⟨rfl, hw⟩
    have Hw1 := Lib.hid hw.ex
    clear hw
    go_wp2_with fail
    refine (told_any _).mono ?_
    rintro e w2 ⟨rfl, hw⟩
    have Hw2 := Lib.hid (Hw1.out.trans hw)
    clear hw Hw1
    go_wp2_with fail
    go_ret
    exact ⟨by simp, Hw2.out⟩
  · have c1' : (r == 67108864) = false := by simpa using c1
    by_cases c2 : r = 131072
    · have p4 := p2 c2
      have c2' : (r == 131072) = true := by simpa using c2
      clear p1 p2 p3 c1 c2
      go_enter Try.func6, Try.ntmps6
      go_wp2_with fail
      refine (kratio Hr.out (by omega) (by omega) (by omega) (by omega) (by omega) (by omega)).mono ?_
      rintro e w1 ⟨rfl, hw⟩
      have Hw1 := Lib.hid hw.ex
      clear hw
      go_wp2_with fail
      refine (told_any _).mono ?_
      rintro e w2 ⟨rfl, hw⟩
      have Hw2 := Lib.hid (Hw1.out.trans hw)
      clear hw Hw1
      go_wp2_with fail
      go_ret
      exact ⟨by simp, Hw2.out⟩
    · have c2' : (r == 131072) = false := by simpa using c2
      obtain ⟨p4, p5, p6⟩ := p3 c1 c2
      obtain ⟨ww, hww⟩ : ∃ x, fWhole W = x := ⟨_, rfl⟩
      have ww1 : ww = W * 1048576 := by rw [← hww]; exact clamp_in (by omega) (by omega)
      have ww2 : 0 ≤ ww := by omega
      have ww3 : ww ≤ 1099511627776 := by omega
      obtain ⟨mm, hmm⟩ : ∃ x, fMul ww r = x := ⟨_, rfl⟩
      obtain ⟨ii, hii⟩ : ∃ x, fInt mm = x := ⟨_, rfl⟩
      rw [hww, hmm, hii] at p4 p5 p6
      have Hww := Lib.hid hww
      have Hmm := Lib.hid hmm
      have Hii := Lib.hid hii
      clear p1 p2 p3 c1 c2 hww hmm hii ww1
      go_enter Try.func6, Try.ntmps6
      go_wp2_with fail
      refine (kratio Hr.out (by omega) (by omega) (by omega) (by omega) (by omega) (by omega)).mono ?_
      rintro e w1 ⟨rfl, hw⟩
      have Hw1 := Lib.hid hw.ex
      clear hw
      go_wp2_with fail
      refine (rw_whole Hww (by omega) (by omega)).mono ?_
      rintro e w' ⟨rfl, rfl⟩
      go_wp2_with fail
      refine (rw_mul Hmm (by omega) (by omega) (by omega) (by omega)).mono ?_
      rintro e w' ⟨rfl, rfl⟩
      go_wp2_with fail
      refine (rw_int Hii).mono ?_
      rintro e w' ⟨rfl, rfl⟩
      go_wp2_with fail
      refine (told_any _).mono ?_
      rintro e w2 ⟨rfl, hw⟩
      have Hw2 := Lib.hid (Hw1.out.trans hw)
      clear hw Hw1
      go_wp2_with fail
      go_ret
      exact ⟨rfl, Hw2.out⟩

end Go.Proofs.Ytbbhgcabebjlhaa
