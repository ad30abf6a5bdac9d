/- The laws of layer 2 over whole numbers. -/
import Derived.Test.YtlandgfmdhcjmaaTold2
namespace Go.Proofs.Ytlandgfmdhcjmaa
open Ieee Go.RowKit
set_option linter.unusedVariables false

theorem bounds_key (p k m : Int) (k1 : 0 ≤ k) (k2 : k ≤ 9) (m1 : 0 ≤ m) (m2 : m ≤ 2) : mayB p (-(64 * k)) = false ∧
    ((1 ≤ p ∧ p ≤ 64 ∧ 256 ≤ 64 * k ∧ m = 0 ∧ mayB p (64 * k + m) = true ∧ mayB p (16777216 + 64 * m) = true) ∨ (1 ≤ p ∧ p ≤ 64 ∧ 256 ≤ 64 * k ∧ (m == 0) = false ∧ mayB p (64 * k + m) = false ∧ mayB p (16777216 + 64 * m) = false) ∨
     (1 ≤ p ∧ p ≤ 64 ∧ 64 * k < 256 ∧ m = 0 ∧ mayB p (64 * k + m) = false ∧ mayB p (16777216 + 64 * m) = true) ∨ (1 ≤ p ∧ p ≤ 64 ∧ 64 * k < 256 ∧ (m == 0) = false ∧ mayB p (64 * k + m) = false ∧ mayB p (16777216 + 64 * m) = false) ∨
     (p < 1 ∧ mayB p (64 * k + m) = false ∧ mayB p (16777216 + 64 * m) = false) ∨ (1 ≤ p ∧ 64 < p ∧ mayB p (64 * k + m) = false ∧ mayB p (16777216 + 64 * m) = false)) := by
  unfold mayB
  refine ⟨decide_eq_false (by omega), ?_⟩
  by_cases h1 : p < 1
  · exact .inr (.inr (.inr (.inr (.inl ⟨h1, decide_eq_false (by omega), decide_eq_false (by omega)⟩))))
  · by_cases h2 : 64 < p
    · exact .inr (.inr (.inr (.inr (.inr ⟨by omega, h2, decide_eq_false (by omega), decide_eq_false (by omega)⟩))))
    · by_cases h3 : 256 ≤ 64 * k
      · by_cases h4 : m = 0
        · exact .inl ⟨by omega, by omega, h3, h4, decide_eq_true (by omega), decide_eq_true (by omega)⟩
        · exact .inr (.inl ⟨by omega, by omega, h3, by simpa using h4, decide_eq_false (by omega), decide_eq_false (by omega)⟩)
      · by_cases h4 : m = 0
        · exact .inr (.inr (.inl ⟨by omega, by omega, by omega, h4, decide_eq_false (by omega), decide_eq_true (by omega)⟩))
        · exact .inr (.inr (.inr (.inl ⟨by omega, by omega, by omega, by simpa using h4, decide_eq_false (by omega), decide_eq_false (by omega)⟩)))

set_option maxHeartbeats 3200000 in
theorem bounds_walk (ps pages more : Int) (w : World) :
    Calls Try.prog 4 #[.int .i64 ps, .int .i64 pages, .int .i64 more] w fun e w' => e = .returned (.bool true) ∧ Below w.heap.size w w' := by
  obtain ⟨r, hr⟩ : ∃ r, (IntKind.u64.wrap ps).tmod 70 = r := ⟨_, rfl⟩
  obtain ⟨r1, r2⟩ := umod_bd ps 70 (by omega)
  rw [hr] at r1 r2
  obtain ⟨k, hk⟩ : ∃ r, (IntKind.u64.wrap pages).tmod 10 = r := ⟨_, rfl⟩
  obtain ⟨k1, k2⟩ := umod_bd pages 10 (by omega)
  rw [hk] at k1 k2
  obtain ⟨m, hm⟩ : ∃ r, (IntKind.u64.wrap more).tmod 3 = r := ⟨_, rfl⟩
  obtain ⟨m1, m2⟩ := umod_bd more 3 (by omega)
  rw [hm] at m1 m2
  obtain ⟨p, hp⟩ : ∃ p, r - 2 = p := ⟨_, rfl⟩
  have p1 : -2 ≤ p := by omega
  have p2 : p ≤ 67 := by omega
  obtain ⟨h3, hc⟩ := bounds_key p k m k1 (by omega) m1 (by omega)
  have H3 := Lib.hid h3
  clear h3
  rcases hc with ⟨c1, c2, c3, c4, h1, h2⟩ | ⟨c1, c2, c3, c4, h1, h2⟩ | ⟨c1, c2, c3, c4, h1, h2⟩ | ⟨c1, c2, c3, c4, h1, h2⟩ | ⟨c1, h1, h2⟩ | ⟨c1, c2, h1, h2⟩
  all_goals
    have H1 := Lib.hid h1
    have H2 := Lib.hid h2
    clear h1 h2
    try subst c4
    try simp only [Int.add_zero, Int.mul_zero] at H1 H2
    go_enter Try.func4, Try.ntmps4
    go_wp2_with fail
    refine (told_any _).mono ?_
    rintro e w1 ⟨rfl, hw⟩
    have Hw1 := Lib.hid hw
    clear hw
    go_wp2_with fail
    refine (may_prog _ _ 0 0 _ _ H1.out).mono ?_
    rintro e w2 ⟨rfl, hw⟩
    have Hw2 := Lib.hid (Hw1.out.trans hw)
    clear hw Hw1
    go_wp2_with fail
    refine (may_prog _ _ 0 0 _ _ H2.out).mono ?_
    rintro e w3 ⟨rfl, hw⟩
    have Hw3 := Lib.hid (Hw2.out.trans hw)
    clear hw Hw2
    go_wp2_with fail
    refine (may_prog _ _ 0 0 _ _ H3.out).mono ?_
    rintro e w4 ⟨rfl, hw⟩
    have Hw4 := Lib.hid (Hw3.out.trans hw)
    clear hw Hw3
    go_wp2_with fail
    go_ret
    exact ⟨rfl, Hw4.out⟩

theorem v_34 : ∃ Q, HasV 4604930618986332160 Q ∧ Q * 4 = 3 * T ∧ ∃ B : Nat, B = 1072 ∧ T = 4 * 2 ^ B ∧ Q = 3 * 2 ^ B :=
  ⟨3 * 2 ^ 1072, ⟨⟨false, 6755399441055744, -53, by decide +kernel, by omega, by omega, by decide +kernel⟩⟩, by decide +kernel, 1072, rfl, by decide +kernel, rfl⟩

theorem wholes_key (k : Int) (k1 : 0 ≤ k) (k2 : k ≤ 10000) : ∃ y, (∀ w, Calls Try.prog 7 #[.float .f64 (floatOfInt .f64 k)] w fun e w' => e = .returned (.tuple #[.int .i64 k, .bool true]) ∧ w = w') ∧
    floatBits .add .f64 (floatOfInt .f64 k) 4604930618986332160 = some y ∧ (∀ w, Calls Try.prog 7 #[.float .f64 y] w fun e w' => e = .returned (.tuple #[.int .i64 k, .bool true]) ∧ w = w') := by
  have hp := T_pos
  have h0 := ofInt_val k k.natAbs 0 (by simp) (by omega) (by omega)
  obtain ⟨Q, hQ, eQ, B, hB, eT, eQ2⟩ := v_34
  have kT : 0 ≤ k * T := Int.mul_nonneg k1 (by omega)
  have kT2 : k * T ≤ 10000 * T := Int.mul_le_mul_of_nonneg_right k2 (by omega)
  have hs : (k * T + Q).natAbs = (4 * k.natAbs + 3) * 2 ^ B := by
    have e : k * T + Q = (4 * k + 3) * 2 ^ B := by rw [eT, eQ2, Int.add_mul, ← Int.mul_assoc, Int.mul_comm k 4]
    rw [e, Int.natAbs_mul, Int.natAbs_pow]
    congr 1
    omega
  have hl : (4 * k.natAbs + 3).log2 < 20 := (Nat.log2_lt (by omega)).2 (by rw [show (2 : Nat) ^ 20 = 1048576 from by decide]; omega)
  obtain ⟨y, hy, hyV⟩ := add_val h0 hQ _ _ hs (by omega) (.inr (by omega))
  refine ⟨y, kpct h0 kT ?_, hy, kpct hyV (by omega) ?_⟩
  · rw [Int.min_eq_left kT2, Int.mul_ediv_cancel _ (by omega)]
  · by_cases h : k = 10000
    · subst h
      rw [Int.min_eq_right (by omega), Int.mul_ediv_cancel _ (by omega)]
    · have : (k + 1) * T ≤ 10000 * T := Int.mul_le_mul_of_nonneg_right (by omega) (by omega)
      have e1 : (k + 1) * T = k * T + T := by rw [Int.add_mul, Int.one_mul]
      rw [Int.min_eq_left (by omega), Int.add_comm, Int.add_mul_ediv_right _ _ (by omega), Int.ediv_eq_zero_of_lt (by omega) (by omega)]
      omega

theorem part_back (p : Int) (p1 : 16384 ≤ p) (p2 : p ≤ 1048576) : ∃ r, (∀ w, Calls Try.prog 11 #[.int .i64 p] w fun e w' => e = .returned (.float .f64 r) ∧ w = w') ∧
    (∀ w, Calls Try.prog 8 #[.float .f64 r] w fun e w' => e = .returned (.int .i64 p) ∧ w = w') := by
  have hp := T_pos
  obtain ⟨r, V, h1, h2, h3⟩ := real_val p (by omega)
  exact ⟨r, h3, kpart h1 (by rw [h2, Int.mul_ediv_cancel _ (by omega)]; omega)⟩

set_option maxHeartbeats 1600000 in
theorem wholes_walk (n part : Int) (w : World) :
    Calls Try.prog 5 #[.int .i64 n, .int .i64 part] w fun e w' => e = .returned (.bool true) ∧ Below w.heap.size w w' := by
  obtain ⟨k, hk⟩ : ∃ r, (IntKind.u64.wrap n).tmod 10001 = r := ⟨_, rfl⟩
  obtain ⟨k1, k2⟩ := umod_bd n 10001 (by omega)
  rw [hk] at k1 k2
  obtain ⟨r, hr⟩ : ∃ r, (IntKind.u64.wrap part).tmod 1032193 = r := ⟨_, rfl⟩
  obtain ⟨r1, r2⟩ := umod_bd part 1032193 (by omega)
  rw [hr] at r1 r2
  obtain ⟨p, hp⟩ : ∃ p, 16384 + r = p := ⟨_, rfl⟩
  have p1 : 16384 ≤ p := by omega
  have p2 : p ≤ 1048576 := by omega
  obtain ⟨y, hA, hadd, hB⟩ := wholes_key k k1 (by omega)
  obtain ⟨s, hC, hD⟩ := part_back p p1 p2
  have HA := Lib.hid hA
  have HB := Lib.hid hB
  have HC := Lib.hid hC
  have HD := Lib.hid hD
  have hmin : ¬ (10000 : Int) < k := by omega
  have hsum := fun w => run_float_arith (P := Try.prog) w .add 22 .f64 _ _ y hadd
  clear hA hB hC hD hadd
  go_enter Try.func5, Try.ntmps5
  go_wp2_with fail
  refine (HA.out _).mono ?_
  rintro e w' ⟨rfl, rfl⟩
  go_wp2_with fail
  refine (HB.out _).mono ?_
  rintro e w' ⟨rfl, rfl⟩
  go_wp2_with fail
  refine (told_any _).mono ?_
  rintro e w1 ⟨rfl, hw⟩
  have Hw1 := Lib.hid hw
  clear hw
  go_wp2_with fail
  refine (HC.out _).mono ?_
  rintro e w' ⟨rfl, rfl⟩
  go_wp2_with fail
  refine (HD.out _).mono ?_
  rintro e w' ⟨rfl, rfl⟩
  go_wp2_with fail
  go_ret
  exact ⟨rfl, Hw1.out⟩

theorem walk_ConfBounds (ps pages more : Int) (w0 : (Lit.int .i64 ps).wf = true) (w1 : (Lit.int .i64 pages).wf = true) (w2 : (Lit.int .i64 more).wf = true) (w : World) :
    Calls Try.prog 4 #[.int .i64 ps, .int .i64 pages, .int .i64 more] w fun e w' => e = .returned (.bool true) ∧ Below w.heap.size w w' := bounds_walk ps pages more w
theorem walk_ConfWholes (n part : Int) (w0 : (Lit.int .i64 n).wf = true) (w1 : (Lit.int .i64 part).wf = true) (w : World) :
    Calls Try.prog 5 #[.int .i64 n, .int .i64 part] w fun e w' => e = .returned (.bool true) ∧ Below w.heap.size w w' := wholes_walk n part w

end Go.Proofs.Ytlandgfmdhcjmaa
