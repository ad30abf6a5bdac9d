/- FixHalves: a product by a half is the half, rounded down; twice a half is the number or one less: for every number. -/
import Derived.Test.YtdmoacihidligaaTold1
namespace Go.Proofs.Ytdmoacihidligaa
open Go.RowKit

theorem mul_half (a h : Int) (w : World) (a1 : -9223372036854775808 ≤ a) (a2 : a ≤ 9223372036854775807) (hh : h = a / 2) :
    Calls Try.prog 22 #[.int .i64 a, .int .i64 524288] w fun e w' => e = .returned (.int .i64 h) ∧ w = w' := by
  have k := fMul_any a 524288 w a1 a2 (by omega) (by omega)
  rw [show fMul a 524288 = h from by unfold fMul; rw [clamp_in (by omega) (by omega)]; omega] at k
  exact k
theorem mul_twice (h : Int) (w : World) (a1 : -4611686018427387904 ≤ h) (a2 : h ≤ 4611686018427387903) :
    Calls Try.prog 22 #[.int .i64 h, .int .i64 2097152] w fun e w' => e = .returned (.int .i64 (2 * h)) ∧ w = w' := by
  have k := fMul_any h 2097152 w (by omega) (by omega) (by omega) (by omega)
  rw [show fMul h 2097152 = 2 * h from by unfold fMul; rw [clamp_in (by omega) (by omega)]; omega] at k
  exact k
theorem div_twice (a h : Int) (w : World) (a1 : -9223372036854775808 ≤ a) (a2 : a ≤ 9223372036854775807) (hh : h = a / 2) :
    Calls Try.prog 12 #[.int .i64 a, .int .i64 2097152] w fun e w' => e = .returned (.int .i64 h) ∧ Dr w w' := by
  have k := fDiv_any a 2097152 w a1 a2 (by omega) (by omega)
  rw [show fDiv a 2097152 = h from by unfold fDiv; rw [if_neg (by omega), floorDiv_pos (by omega), clamp_in (by omega) (by omega)]; omega] at k
  exact k

theorem tdiv_neg' (a : Int) (h : a < 0) (b : Int) : a.tdiv b = -((-a) / b) := by
  have e := Int.neg_tdiv (a := -a) (b := b)
  rw [Int.neg_neg] at e
  rw [e, Int.tdiv_eq_ediv_of_nonneg (by omega)]

/-- What 'want' is, whichever way. -/
theorem half_ways (a : Int) (h : -9223372036854775808 ≤ a) : (a < 0 ∧ (a.tmod 2 != 0) = true ∧ wrap64 (a.tdiv 2 - 1) = a / 2) ∨ (a < 0 ∧ (a.tmod 2 != 0) = false ∧ a.tdiv 2 = a / 2) ∨ (¬ a < 0 ∧ a.tdiv 2 = a / 2) := by
  by_cases c : a < 0
  · have e1 := tdiv_neg' a c 2
    have e2 := Int.tmod_add_mul_tdiv a 2
    rw [e1] at e2
    rw [e1]
    by_cases c2 : a.tmod 2 = 0
    · exact .inr (.inl ⟨c, by simp [c2], by omega⟩)
    · exact .inl ⟨c, by simpa using c2, by unfold wrap64; omega⟩
  · exact .inr (.inr ⟨c, Int.tdiv_eq_ediv_of_nonneg (by omega)⟩)

set_option maxHeartbeats 400000 in
theorem walk_FixHalves (a : Int) (w0 : (Lit.int .i64 a).wf = true) (w : World) :
    Calls Try.prog 7 #[.int .i64 a] w fun e w' => e = .returned (.bool true) ∧ Grown w w' := by
  have a1 : -9223372036854775808 ≤ a := by simp [Lit.wf] at w0; exact w0.1
  have a2 : a ≤ 9223372036854775807 := by simp [Lit.wf] at w0; exact w0.2
  clear w0
  have hw := half_ways a a1
  obtain ⟨h, hh⟩ : ∃ h, h = a / 2 := ⟨_, rfl⟩
  rw [← hh] at hw
  have b0 : a ≤ 2 * h + 1 := by omega
  have b1 : 2 * h ≤ a := by omega
  have b2 : -4611686018427387904 ≤ h := by omega
  have b3 : h ≤ 4611686018427387903 := by omega
  have b4 : ((a - 2 * h == 0) = true) ∨ ((a - 2 * h == 0) = false ∧ (a - 2 * h == 1) = true) := by
    by_cases p : a = 2 * h
    · exact .inl (by rw [beq_iff_eq]; omega)
    · exact .inr ⟨by rw [beq_eq_false_iff_ne]; omega, by rw [beq_iff_eq]; omega⟩
  have Hh := Lib.hid hh
  clear hh
  rcases hw with ⟨c1, c2, c3⟩ | ⟨c1, c2, c3⟩ | ⟨c1, c3⟩ <;> rcases b4 with b5 | ⟨b5, b6⟩
  all_goals
    go_enter Try.func7, Try.ntmps7
    go_wp2_with fail
    refine (mul_half a h _ a1 a2 Hh.out).mono ?_
    rintro e w' ⟨rfl, rfl⟩
    go_wp2_with fail
    refine (mul_twice h _ b2 b3).mono ?_
    rintro e w' ⟨rfl, rfl⟩
    go_wp2_with fail
    refine (told_any _).mono ?_
    rintro e w1 ⟨rfl, hw1⟩
    have Hw1 := Lib.hid hw1
    clear hw1
    go_wp2_with fail
    refine (div_twice a h _ a1 a2 Hh.out).mono ?_
    rintro e w2 ⟨rfl, hw2⟩
    have Hw2 := Lib.hid hw2
    clear hw2
    go_wp2_with fail
    go_ret
    exact ⟨rfl, (Hw1.out.trans Hw2.out).grown⟩

end Go.Proofs.Ytdmoacihidligaa
