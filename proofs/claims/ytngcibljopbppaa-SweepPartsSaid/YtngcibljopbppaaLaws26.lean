/- The laws of layer 26: sweeping in step with allocation. -/
import Derived.Test.YtngcibljopbppaaSweep
import Derived.Deep.QuietTactic
import Derived.BigQuiet
import Derived.Deep.DeepCutAuto
namespace Go.Proofs.Ytngcibljopbppaa
open Go.RowKit
set_option linter.unusedVariables false

/-- What is needed at a place on the way, of numbers that lie within their bounds. -/
theorem need_in (n d t w o : Int) (n1 : 0 ≤ n) (n2 : n ≤ 2147483648) (d1 : 0 ≤ d) (d2 : d ≤ n) (t1 : 0 ≤ t) (w1 : 1 ≤ w) (o1 : 0 ≤ o) (ot : o + t ≤ 2147483648) (ow : o + w ≤ 2147483648) :
    needV n d o (o + t) (o + w) = min (max (upDiv (n * t) w - d) 0) (n - d) := by
  unfold needV needIn
  rw [bnd_in n1 n2, bnd_in d1 (by omega), bnd_in (lo := 0) (x := o) (by omega) (by omega), bnd_in (x := o + t) (by omega) (by omega), bnd_in (x := o + w) (by omega) (by omega)]
  rw [if_neg (by omega), show min d n = d by omega, show max (o + t - o) 0 = t by omega, show o + w - o = w by omega]

theorem up_spec (a w : Int) (w1 : 1 ≤ w) : a ≤ upDiv a w * w ∧ (upDiv a w - 1) * w < a := by
  have h1 := Int.ediv_mul_le a (show w ≠ 0 by omega)
  have h2 := Int.lt_ediv_add_one_mul_self a (show 0 < w by omega)
  have h3 := Int.emod_add_mul_ediv a w
  rw [Int.mul_comm w] at h3
  rw [Int.add_mul, Int.one_mul] at h2
  have h4 := Int.emod_nonneg a (show w ≠ 0 by omega)
  unfold upDiv
  by_cases h : 0 < a % w
  · rw [if_pos h, Int.sub_mul, Int.add_mul, Int.one_mul]
    omega
  · rw [if_neg h, Int.sub_mul, Int.one_mul]
    omega

/-- The least such number. -/
theorem up_le (a w q : Int) (w1 : 1 ≤ w) (h : a ≤ q * w) : upDiv a w ≤ q := by
  have h2 := (up_spec a w w1).2
  have h3 : (upDiv a w - 1) * w < q * w := by omega
  have := Int.lt_of_mul_lt_mul_right h3 (by omega)
  omega

theorem up_mono (a b w : Int) (w1 : 1 ≤ w) (h : a ≤ b) : upDiv a w ≤ upDiv b w :=
  up_le a w _ w1 (Int.le_trans h (up_spec b w w1).1)

theorem up_zero (w : Int) (w1 : 1 ≤ w) : upDiv 0 w = 0 := by
  unfold upDiv
  rw [Int.zero_emod, if_neg (by omega), Int.zero_ediv]

theorem up_all (n w : Int) (w1 : 1 ≤ w) : upDiv (n * w) w = n := by
  unfold upDiv
  rw [Int.mul_emod_left, if_neg (by omega), Int.mul_ediv_cancel _ (by omega)]

/-- A step of sweeping. -/
theorem steps_plain (n w at0 sw V : Int) (n1 : 0 ≤ n) (n2 : n ≤ 200) (w1 : 1 ≤ w) (w2 : w ≤ 300) (t1 : 0 ≤ at0) (t2 : at0 < w) (s1 : 0 ≤ sw) (s2 : sw ≤ n) (hs : (sw - 1) * w < n * at0)
    (hV : needV n sw 1000 (1000 + at0) (1000 + w) = V) :
    0 ≤ V ∧ sw + V ≤ n ∧ n * at0 ≤ (sw + V) * w ∧ (sw + V - 1) * w < n * at0 := by
  rw [need_in n sw at0 w 1000 n1 (by omega) s1 s2 t1 w1 (by omega) (by omega) (by omega)] at hV
  obtain ⟨h1, h2⟩ := up_spec (n * at0) w w1
  have h3 : upDiv (n * at0) w ≤ n := up_le _ _ _ w1 (Int.mul_le_mul_of_nonneg_left (by omega) n1)
  have h4 : 0 ≤ upDiv (n * at0) w := (upDiv_bd _ w (Int.mul_nonneg n1 t1) w1).2.2.1
  generalize hu : upDiv (n * at0) w = u at *
  by_cases c : sw ≤ u
  · have e2 : sw + V = u := by omega
    rw [e2]
    exact ⟨by omega, by omega, h1, h2⟩
  · have e : V = 0 := by omega
    rw [e, Int.add_zero]
    refine ⟨by omega, by omega, ?_, hs⟩
    have := Int.mul_le_mul_of_nonneg_right (show u ≤ sw by omega) (show 0 ≤ w by omega)
    omega

theorem next_plain {n w at0 s sw : Int} (n1 : 0 ≤ n) (hs : (sw - 1) * w < n * at0) (h : 0 ≤ s) : (sw - 1) * w < n * (at0 + s) := by
  have := Int.mul_nonneg n1 h
  rw [Int.mul_add]
  omega

/-- The numbers are small. -/
theorem steps_bd {n w at0 sw : Int} (n1 : 0 ≤ n) (n2 : n ≤ 200) (w1 : 1 ≤ w) (w2 : w ≤ 300) (t1 : 0 ≤ at0) (t2 : at0 < w) (s1 : 0 ≤ sw) (s2 : sw ≤ n) :
    0 ≤ sw * w ∧ sw * w ≤ 60000 ∧ 0 ≤ n * at0 ∧ n * at0 ≤ 60000 ∧ -300 ≤ (sw - 1) * w ∧ (sw - 1) * w ≤ 60000 := by
  have h1 := Int.mul_nonneg s1 (show 0 ≤ w by omega)
  have h2 : sw * w ≤ 200 * 300 := Int.mul_le_mul (by omega) w2 (by omega) (by omega)
  have h3 := Int.mul_nonneg n1 t1
  have h4 : n * at0 ≤ 200 * 300 := Int.mul_le_mul n2 (by omega) t1 (by omega)
  have h5 : (sw - 1) * w = sw * w - w := by rw [Int.sub_mul, Int.one_mul]
  omega

theorem last_plain (n w sw : Int) (n1 : 0 ≤ n) (n2 : n ≤ 200) (w1 : 1 ≤ w) (w2 : w ≤ 300) (s1 : 0 ≤ sw) (s2 : sw ≤ n) :
    needV n sw 1000 (1000 + w) (1000 + w) = n - sw ∧ needV n n 1000 (1000 + 2 * w) (1000 + w) = 0 := by
  rw [need_in n sw w w 1000 n1 (by omega) s1 s2 (by omega) w1 (by omega) (by omega) (by omega), up_all n w w1]
  rw [need_in n n (2 * w) w 1000 n1 (by omega) n1 (by omega) (by omega) w1 (by omega) (by omega) (by omega)]
  omega

set_option maxHeartbeats 800000 in
theorem walk_SweepSteps (spans way step : Int) (_w0 : (Lit.int .i64 spans).wf = true) (_w1 : (Lit.int .i64 way).wf = true) (_w2 : (Lit.int .i64 step).wf = true) (w : World) :
    Calls Try.prog 3 #[.int .i64 spans, .int .i64 way, .int .i64 step] w fun e w' => e = .returned (.bool true) ∧ Grown w w' := by
  clear _w0 _w1 _w2
  obtain ⟨n, hn⟩ : ∃ r, (IntKind.u64.wrap spans).tmod 201 = r := ⟨_, rfl⟩
  obtain ⟨n1, n2⟩ := umod_bd spans 201 (by omega)
  rw [hn] at n1 n2
  obtain ⟨r, hr⟩ : ∃ r, (IntKind.u64.wrap way).tmod 300 = r := ⟨_, rfl⟩
  obtain ⟨r1, r2⟩ := umod_bd way 300 (by omega)
  rw [hr] at r1 r2
  obtain ⟨q, hq⟩ : ∃ r, (IntKind.u64.wrap step).tmod 20 = r := ⟨_, rfl⟩
  obtain ⟨q1, q2⟩ := umod_bd step 20 (by omega)
  rw [hq] at q1 q2
  obtain ⟨wy, hwy⟩ : ∃ wy, 1 + r = wy := ⟨_, rfl⟩
  obtain ⟨s, hs⟩ : ∃ s, 1 + q = s := ⟨_, rfl⟩
  have w1 : 1 ≤ wy := by omega
  have w2 : wy ≤ 300 := by omega
  have s1 : 1 ≤ s := by omega
  have s2 : s ≤ 20 := by omega
  clear r1 r2 q1 q2
  go_enter Try.func3, Try.ntmps3
  go_wp2_with fail
  go_loop [10, 11] (fun sv tv => ∃ sw t : Int, 0 ≤ sw ∧ sw ≤ n ∧ 0 ≤ t ∧ t ≤ 320 ∧ (sw - 1) * wy < n * t ∧ sv = .int .i64 sw ∧ tv = .int .i64 t) (fun _ tv => (wy - intOf tv).toNat)
  case atStart => exact ⟨0, 0, by omega, by omega, by omega, by omega, by omega, rfl, rfl⟩
  case round =>
    obtain ⟨sw, t, s3, s4, t1, t2, h1, rfl, rfl⟩ := hrel
    by_cases ht : t < wy
    · obtain ⟨V, hV⟩ : ∃ V, needV n sw 1000 (1000 + t) (1000 + wy) = V := ⟨_, rfl⟩
      obtain ⟨v1, v2, v3, v4⟩ := steps_plain n wy t sw V n1 (by omega) w1 w2 t1 ht s3 s4 h1 hV
      have HV := Lib.hid hV
      clear hV h1
      obtain ⟨sw', hsw⟩ : ∃ sw', sw + V = sw' := ⟨_, rfl⟩
      rw [hsw] at v2 v3 v4
      have s5 : 0 ≤ sw' := by omega
      obtain ⟨b1, b2, b3, b4, b5, b6⟩ := steps_bd n1 (by omega) w1 w2 t1 ht s5 v2
      have hnx := Lib.hid (next_plain (s := s) n1 v4 (by omega))
      go_wp2_with fail
      refine (kneed HV.out).mono ?_
      rintro e w' ⟨rfl, rfl⟩
      go_wp2_with fail
      go_round
      case rel => exact ⟨sw', t + s, s5, v2, by omega, by omega, hnx.out, rfl, rfl⟩
      case measure => simp [intOf]; omega
    · obtain ⟨l1, l2⟩ := last_plain n wy sw n1 (by omega) w1 w2 s3 s4
      have L1 := Lib.hid l1
      have L2 := Lib.hid l2
      have hsn : sw + (n - sw) = n := by omega
      clear l1 l2 h1
      go_wp2_with fail
      refine (kneed L1.out).mono ?_
      rintro e w' ⟨rfl, rfl⟩
      go_wp2_with fail
      refine (told_any _).mono ?_
      rintro e w2 ⟨rfl, hw⟩
      have Hw2 := Lib.hid hw
      clear hw
      go_wp2_with fail
      refine (kneed L2.out).mono ?_
      rintro e w' ⟨rfl, rfl⟩
      go_wp2_with fail
      go_ret
      exact ⟨rfl, Hw2.out.grown⟩

/-- What is needed never falls, and its ends. -/
theorem parts_plain (n d X Y w P Q : Int) (n1 : 0 ≤ n) (n2 : n < 1048576) (d1 : 0 ≤ d) (d2 : d ≤ n) (w1 : 1 ≤ w) (w2 : w ≤ 1048576) (x1 : 0 ≤ X) (xy : X ≤ Y) (y2 : Y ≤ w)
    (hP : needV n d 50 (50 + X) (50 + w) = P) (hQ : needV n d 50 (50 + Y) (50 + w) = Q) :
    0 ≤ P ∧ P ≤ Q ∧ Q ≤ n - d ∧ n * Y ≤ (d + Q) * w ∧ 0 ≤ n * Y ∧ (d + Q) * w ≤ 1099511627776 ∧
    needV n d 50 50 (50 + w) = 0 ∧ needV n 0 50 (50 + w) (50 + w) = n ∧ needV n n 50 (50 + Y) (50 + w) = 0 := by
  have h0 := need_in n d 0 w 50 n1 (by omega) d1 d2 (by omega) w1 (by omega) (by omega) (by omega)
  rw [Int.mul_zero, up_zero w w1, Int.add_zero] at h0
  have hA := need_in n 0 w w 50 n1 (by omega) (by omega) n1 (by omega) w1 (by omega) (by omega) (by omega)
  rw [up_all n w w1] at hA
  have hN := need_in n n Y w 50 n1 (by omega) n1 (by omega) (by omega) w1 (by omega) (by omega) (by omega)
  rw [need_in n d X w 50 n1 (by omega) d1 d2 x1 w1 (by omega) (by omega) (by omega)] at hP
  rw [need_in n d Y w 50 n1 (by omega) d1 d2 (by omega) w1 (by omega) (by omega) (by omega)] at hQ
  have m1 := up_mono (n * X) (n * Y) w w1 (Int.mul_le_mul_of_nonneg_left xy n1)
  have s1 := up_spec (n * Y) w w1
  have s3 : upDiv (n * Y) w ≤ n := up_le _ _ _ w1 (Int.mul_le_mul_of_nonneg_left y2 n1)
  have g0 := Int.mul_nonneg n1 (show 0 ≤ Y by omega)
  generalize hu : upDiv (n * Y) w = u at *
  generalize hv : upDiv (n * X) w = v at *
  have g1 : u * w ≤ (d + Q) * w := Int.mul_le_mul_of_nonneg_right (by omega) (by omega)
  have g2 : (d + Q) * w ≤ 1048576 * 1048576 := Int.mul_le_mul (by omega) w2 (by omega) (by omega)
  refine ⟨by omega, by omega, by omega, by omega, g0, by omega, by omega, by omega, by omega⟩

theorem even_in (n w : Int) (n1 : 0 ≤ n) (n2 : n < 1048576) (w1 : 1 ≤ w) (w2 : w ≤ 1048576) : evenV n 50 (50 + w) = fDiv (n * 1048576) (w * 1048576) ∧ fWhole n = n * 1048576 ∧ fWhole w = w * 1048576 := by
  refine ⟨?_, clamp_in (by omega) (by omega), clamp_in (by omega) (by omega)⟩
  unfold evenV
  rw [bnd_in (lo := 0) (x := 50) (by omega) (by omega), bnd_in (x := 50 + w) (by omega) (by omega), bnd_in n1 (by omega), if_neg (by omega), show 50 + w - 50 = w by omega]

set_option maxHeartbeats 3200000 in
theorem walk_SweepParts (spans swept way a b : Int) (_w0 : (Lit.int .i64 spans).wf = true) (_w1 : (Lit.int .i64 swept).wf = true) (_w2 : (Lit.int .i64 way).wf = true) (_w3 : (Lit.int .i64 a).wf = true) (_w4 : (Lit.int .i64 b).wf = true) (w : World) :
    Calls Try.prog 4 #[.int .i64 spans, .int .i64 swept, .int .i64 way, .int .i64 a, .int .i64 b] w fun e w' => e = .returned (.bool true) ∧ Grown w w' := by
  clear _w0 _w1 _w2 _w3 _w4
  obtain ⟨n, hn⟩ : ∃ r, (IntKind.u64.wrap spans).tmod 1048576 = r := ⟨_, rfl⟩
  obtain ⟨n1, n2⟩ := umod_bd spans 1048576 (by omega)
  rw [hn] at n1 n2
  obtain ⟨r, hr⟩ : ∃ r, (IntKind.u64.wrap way).tmod 1048576 = r := ⟨_, rfl⟩
  obtain ⟨r1, r2⟩ := umod_bd way 1048576 (by omega)
  rw [hr] at r1 r2
  obtain ⟨wy, hwy⟩ : ∃ wy, 1 + r = wy := ⟨_, rfl⟩
  have w1 : 1 ≤ wy := by omega
  have w2 : wy ≤ 1048576 := by omega
  have wz : ((wy + 1 : Int) == 0) = false := by simp; omega
  have nz : ((n + 1 : Int) == 0) = false := by simp; omega
  obtain ⟨d, hd⟩ : ∃ d, (IntKind.u64.wrap swept).tmod (n + 1) = d := ⟨_, rfl⟩
  obtain ⟨d1, d2⟩ := umod_bd swept (n + 1) (by omega)
  rw [hd] at d1 d2
  obtain ⟨a1, a2⟩ := umod_bd a (wy + 1) (by omega)
  obtain ⟨b1, b2⟩ := umod_bd b (wy + 1) (by omega)
  have hways : ∃ X Y : Int, 0 ≤ X ∧ Y ≤ wy ∧ X ≤ Y ∧ (((IntKind.u64.wrap a).tmod (wy + 1) = X ∧ (IntKind.u64.wrap b).tmod (wy + 1) = Y ∧ ¬ Y < X) ∨ ((IntKind.u64.wrap a).tmod (wy + 1) = Y ∧ (IntKind.u64.wrap b).tmod (wy + 1) = X ∧ X < Y)) := by
    by_cases h : (IntKind.u64.wrap b).tmod (wy + 1) < (IntKind.u64.wrap a).tmod (wy + 1)
    · exact ⟨_, _, b1, by omega, by omega, .inr ⟨rfl, rfl, h⟩⟩
    · exact ⟨_, _, a1, by omega, by omega, .inl ⟨rfl, rfl, h⟩⟩
  clear a1 a2 b1 b2
  obtain ⟨X, Y, x1, y2, hxy, hways⟩ := hways
  obtain ⟨P, hP⟩ : ∃ P, needV n d 50 (50 + X) (50 + wy) = P := ⟨_, rfl⟩
  obtain ⟨Q, hQ⟩ : ∃ Q, needV n d 50 (50 + Y) (50 + wy) = Q := ⟨_, rfl⟩
  obtain ⟨k1, k2, k3, k4, k5, k6, k7, k8, k9⟩ := parts_plain n d X Y wy P Q n1 n2 d1 (by omega) w1 w2 x1 hxy y2 hP hQ
  obtain ⟨e1, e2, e3⟩ := even_in n wy n1 n2 w1 w2
  obtain ⟨v, hv⟩ : ∃ v, fDiv (n * 1048576) (wy * 1048576) = v := ⟨_, rfl⟩
  rw [hv] at e1
  have HP := Lib.hid hP
  have HQ := Lib.hid hQ
  have K7 := Lib.hid k7
  have K8 := Lib.hid k8
  have K9 := Lib.hid k9
  have E1 := Lib.hid e1
  have E2 := Lib.hid e2
  have E3 := Lib.hid e3
  have Hv := Lib.hid hv
  clear hP hQ k7 k8 k9 e1 e2 e3 hv hxy
  rcases hways with ⟨g1, g2, g3⟩ | ⟨g1, g2, g3⟩
  all_goals
    go_enter Try.func4, Try.ntmps4
    go_wp2_with fail
    go_quiet (fail)
    go_wp2_with fail
    refine (kneed HP.out).mono ?_
    rintro e w' ⟨rfl, rfl⟩
    go_wp2_with fail
    refine (kneed HQ.out).mono ?_
    rintro e w' ⟨rfl, rfl⟩
    go_wp2_with fail
    refine (told_any _).mono ?_
    rintro e w2 ⟨rfl, hw⟩
    have Hw2 := Lib.hid (Dr.trans ⟨_, rfl⟩ hw)
    clear hw
    go_wp2_with fail
    refine (kneed K7.out).mono ?_
    rintro e w' ⟨rfl, rfl⟩
    go_wp2_with fail
    refine (kneed K8.out).mono ?_
    rintro e w' ⟨rfl, rfl⟩
    go_wp2_with fail
    refine (kneed K9.out).mono ?_
    rintro e w' ⟨rfl, rfl⟩
    go_wp2_with fail
    refine (keven E1.out).mono ?_
    rintro e w3 ⟨rfl, hw⟩
    have Hw3 := Lib.hid (Hw2.out.trans hw)
    clear hw Hw2
    go_wp2_with fail
    refine (rw_whole E2 (by omega) (by omega)).mono ?_
    rintro e w' ⟨rfl, rfl⟩
    go_wp2_with fail
    refine (rw_whole E3 (by omega) (by omega)).mono ?_
    rintro e w' ⟨rfl, rfl⟩
    go_wp2_with fail
    refine (rw_div Hv (by omega) (by omega) (by omega) (by omega)).mono ?_
    rintro e w4 ⟨rfl, hw⟩
    have Hw4 := Lib.hid (Hw3.out.trans hw)
    clear hw Hw3
    go_wp2_with fail
    go_ret
    exact ⟨rfl, Hw4.out.grown⟩

end Go.Proofs.Ytngcibljopbppaa
