/- FixWholes: the walk. -/
import Derived.Test.YtdmoacihidligaaWholes1
import Derived.Deep.QuietTactic
import Derived.BigQuiet
namespace Go.Proofs.Ytdmoacihidligaa
open Ieee Go.RowKit
set_option linter.unusedVariables false

theorem rw_whole1 {n c : Int} {w : World} (h : Hid (fWhole n = c)) (n1 : -9223372036854775808 ≤ n) (n2 : n ≤ 9223372036854775807) : Calls Try.prog 14 #[.int .i64 n] w fun e w' => e = .returned (.int .i64 c) ∧ w = w' := by
  have k := fWhole_any n w n1 n2
  rw [h.out] at k
  exact k

set_option maxHeartbeats 1600000 in
theorem walk_FixWholes (a b : Int) (w : World) :
    Calls Try.prog 8 #[.int .i64 a, .int .i64 b] w fun e w' => e = .returned (.bool true) ∧ Grown w w' := by
  obtain ⟨x, hx⟩ : ∃ x, a.tmod 1048576 = x := ⟨_, rfl⟩
  obtain ⟨y, hy⟩ : ∃ y, b.tmod 1048576 = y := ⟨_, rfl⟩
  obtain ⟨x1, x2⟩ := rm20 a
  obtain ⟨y1, y2⟩ := rm20 b
  rw [hx] at x1 x2
  rw [hy] at y1 y2
  obtain ⟨xy, hxy⟩ : ∃ z, x * y = z := ⟨_, rfl⟩
  obtain ⟨b1, b2⟩ := prod_bd x1 x2 y1 y2
  obtain ⟨g1, g2, g3, g4⟩ := wholes_plain x1 x2 y1 y2
  rw [hxy] at b1 b2 g3 g4
  have wx := Lib.hid (whole_in (x := x) (by omega) (by omega))
  have wy := Lib.hid (whole_in (x := y) (by omega) (by omega))
  have wa := Lib.hid (whole_in (x := x + y) (by omega) (by omega))
  have ws := Lib.hid (whole_in (x := x - y) (by omega) (by omega))
  have wm := Lib.hid (whole_in b1 b2)
  obtain ⟨r, ho, R1, R2⟩ := whole_float x x1 x2
  have G1 := Lib.hid g1
  have G2 := Lib.hid g2
  have G3 := Lib.hid g3
  have G4 := Lib.hid g4
  have H1 := Lib.hid R1
  have H2 := Lib.hid R2
  clear R1 R2 g1 g2 g3 g4
  have P1 := Lib.hid (fun w => by have k := fAdd_any (x * 1048576) (y * 1048576) w (by omega) (by omega) (by omega) (by omega); rw [G1.out] at k; exact k)
  have P2 := Lib.hid (fun w => by have k := fSub_any (x * 1048576) (y * 1048576) w (by omega) (by omega) (by omega) (by omega); rw [G2.out] at k; exact k)
  have P3 := Lib.hid (fun w => by have k := fMul_any (x * 1048576) (y * 1048576) w (by omega) (by omega) (by omega) (by omega); rw [G3.out] at k; exact k)
  have P4 := Lib.hid (fun w => by have k := fInt_any (xy * 1048576) w; rw [G4.out] at k; exact k)
  clear G1 G2 G3 G4
  have hcase : ((y != 0) = false) ∨ (¬ y = 0 ∧ (y != 0) = true ∧ (x.tmod y == 0) = false) ∨ (¬ y = 0 ∧ (y != 0) = true ∧ (x.tmod y == 0) = true ∧ ∃ q, x.tdiv y = q ∧ -1099511627776 < q ∧ q < 1099511627776 ∧ Hid (∀ w, Calls Try.prog 12 #[.int .i64 (x * 1048576), .int .i64 (y * 1048576)] w fun e w' => e = .returned (.int .i64 (q * 1048576)) ∧ Dr w w') ∧ Hid (fWhole q = q * 1048576)) := by
    by_cases y0 : y = 0
    · left; simpa using y0
    · right
      by_cases t0 : x.tmod y = 0
      · right
        have q1 : (x.tdiv y).natAbs ≤ x.natAbs := by rw [Int.natAbs_tdiv]; exact Nat.div_le_self _ _
        refine ⟨y0, by simpa using y0, by simpa using t0, x.tdiv y, rfl, by omega, by omega, ?_, Lib.hid (whole_in (by omega) (by omega))⟩
        intro w
        have k := fDiv_any (x * 1048576) (y * 1048576) w (by omega) (by omega) (by omega) (by omega)
        rw [div_plain x1 x2 y0 t0] at k
        exact k
      · left
        exact ⟨y0, by simpa using y0, by simpa using t0⟩
  rcases hcase with y0 | ⟨y0, yb, t0⟩ | ⟨y0, yb, t0, q, hq, q1, q2, D1, D2⟩
  all_goals
    go_enter Try.func8, Try.ntmps8
    go_wp2_with fail
    refine (rw_whole1 wx (by omega) (by omega)).mono ?_
    rintro e w' ⟨rfl, rfl⟩
    go_wp2_with fail
    refine (rw_whole1 wy (by omega) (by omega)).mono ?_
    rintro e w' ⟨rfl, rfl⟩
    go_wp2_with fail
    go_quiet (first | (go_at_call 12; exact Calls.quiet_of (D1.out _)) | (go_at_call 14; exact Calls.quiet_of_same ((rw_whole1 D2 (by omega) (by omega)).mono fun _ _ ⟨he, hw⟩ => ⟨he, hw.symm⟩)))
    go_wp2_with fail
    refine (told_any _).mono ?_
    rintro e w1 ⟨rfl, hw⟩
    have Hw1 := Lib.hid (Dr.trans ⟨_, rfl⟩ hw)
    clear hw
    go_wp2_with fail
    refine (P1.out _).mono ?_
    rintro e w' ⟨rfl, rfl⟩
    go_wp2_with fail
    refine (rw_whole1 wa (by omega) (by omega)).mono ?_
    rintro e w' ⟨rfl, rfl⟩
    go_wp2_with fail
    refine (P2.out _).mono ?_
    rintro e w' ⟨rfl, rfl⟩
    go_wp2_with fail
    refine (rw_whole1 ws (by omega) (by omega)).mono ?_
    rintro e w' ⟨rfl, rfl⟩
    go_wp2_with fail
    refine (P3.out _).mono ?_
    rintro e w' ⟨rfl, rfl⟩
    go_wp2_with fail
    refine (rw_whole1 wm (by omega) (by omega)).mono ?_
    rintro e w' ⟨rfl, rfl⟩
    go_wp2_with fail
    refine (P3.out _).mono ?_
    rintro e w' ⟨rfl, rfl⟩
    go_wp2_with fail
    refine (P4.out _).mono ?_
    rintro e w' ⟨rfl, rfl⟩
    go_wp2_with fail
    refine (H1.out _).mono ?_
    rintro e w' ⟨rfl, rfl⟩
    go_wp2_with fail
    refine (H2.out _).mono ?_
    rintro e w' ⟨rfl, rfl⟩
    go_wp2_with fail
    go_ret
    exact ⟨rfl, Hw1.out.grown⟩

end Go.Proofs.Ytdmoacihidligaa
