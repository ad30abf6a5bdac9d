/- The laws of layer 2 over plain numbers and floats. -/
import Derived.Test.YtlandgfmdhcjmaaTold2
namespace Go.Proofs.Ytlandgfmdhcjmaa
open Ieee Go.RowKit
set_option linter.unusedVariables false

theorem order_cases (o : Option Ordering) : o = none ∨ o = some .gt ∨ o = some .lt ∨ o = some .eq := by
  rcases o with _ | o
  · exact .inl rfl
  · cases o <;> simp

set_option maxHeartbeats 3200000 in
theorem walk_ConfOrder (x y : Nat) (w : World) :
    Calls Try.prog 3 #[.float .f64 x, .float .f64 y] w fun e w' => e = .returned (.bool true) ∧ Below w.heap.size w w' := by
  obtain ⟨a, on, hI, a1, a2, hA, -⟩ := pct_both x
  obtain ⟨b, is, hJ, b1, b2, hB, -⟩ := pct_both y
  obtain ⟨p, hK, p1, p2, hP, -⟩ := part_both x
  obtain ⟨q, hL, q1, q2, hQ, -⟩ := part_both y
  have HA := Lib.hid hA
  have HB := Lib.hid hB
  have HP := Lib.hid hP
  have HQ := Lib.hid hQ
  clear hA hB hP hQ
  have key : (FloatKind.f64.format.order x x = none ∧ FloatKind.f64.format.order x y = none ∧ a = 100 ∧ on = true ∧ p = 262144) ∨
      (FloatKind.f64.format.order x x = some .eq ∧ ((FloatKind.f64.format.order x y = none ∨ FloatKind.f64.format.order x y = some .gt) ∧ (on = true ∨ (on = false ∧ a = 0)))) ∨
      (FloatKind.f64.format.order x x = some .eq ∧ ((FloatKind.f64.format.order x y = some .lt ∨ FloatKind.f64.format.order x y = some .eq) ∧ p ≤ q ∧ ((on = false ∧ a = 0) ∨ (on = true ∧ is = false) ∨ (on = true ∧ is = true ∧ a ≤ b)))) := by
    have hon : on = true ∨ (on = false ∧ a = 0) := by
      rcases hI with ⟨-, -, h⟩ | ⟨h1, h2, -, -⟩ | ⟨V, -, -, -, h⟩
      · exact .inl h
      · exact .inr ⟨h2, h1⟩
      · exact .inl h
    rcases read_cases x with ⟨s, f, h⟩ | hfin
    · left
      have o0 := nan_order (y := x) h
      refine ⟨o0, nan_order h, ?_⟩
      have h1 : a = 100 ∧ on = true := by
        rcases hI with ⟨-, k1, k2⟩ | ⟨k1, k2, k3, -⟩ | ⟨V, k, -⟩
        · exact ⟨k1, k2⟩
        · rw [o0] at k3; cases k3
        · obtain ⟨s', m', i', k', -⟩ := k.ex; rw [h] at k'; cases k'
      have h2 : p = 262144 := by
        rcases hK with ⟨-, k⟩ | ⟨k, -⟩ | ⟨k, -⟩ | ⟨V, k, -⟩
        · exact k
        · rw [h] at k; cases k
        · rw [h] at k; cases k
        · obtain ⟨s', m', i', k', -⟩ := k.ex; rw [h] at k'; cases k'
      exact ⟨h1.1, h1.2, h2⟩
    · right
      have o0 : FloatKind.f64.format.order x x = some .eq := by
        rcases hfin with ⟨s, h⟩ | ⟨V, h⟩
        · exact not_nan_order (by intro a b k; rw [h] at k; cases k)
        · exact (ov h h).trans (by rw [Int.compare_eq_eq.2 rfl])
      rcases order_cases (FloatKind.f64.format.order x y) with o | o | o | o
      · exact .inl ⟨o0, .inl o, hon⟩
      · exact .inl ⟨o0, .inr o, hon⟩
      all_goals
        right
        refine ⟨o0, by simp [o], part_mono hK hL p1 p2 q1 q2 (by simp [o]), ?_⟩
        rcases hon with h | h
        · right
          cases his : is
          · exact .inl ⟨h, rfl⟩
          · exact .inr ⟨h, rfl, pct_mono hI hJ h his (by simp [o])⟩
        · exact .inl h
  clear hI hJ hK hL
  rcases key with ⟨o0, o1, rfl, rfl, rfl⟩ | ⟨o0, o1 | o1, rfl | ⟨rfl, rfl⟩⟩ | ⟨o0, o1 | o1, hpq, ⟨rfl, rfl⟩ | ⟨rfl, rfl⟩ | ⟨rfl, rfl, hab⟩⟩
  all_goals
    go_enter Try.func3, Try.ntmps3
    go_wp2_with fail
    refine (HA.out _).mono ?_
    rintro e w' ⟨rfl, rfl⟩
    go_wp2_with fail
    refine (HB.out _).mono ?_
    rintro e w' ⟨rfl, rfl⟩
    go_wp2_with fail
    refine (HP.out _).mono ?_
    rintro e w' ⟨rfl, rfl⟩
    go_wp2_with fail
    refine (HQ.out _).mono ?_
    rintro e w' ⟨rfl, rfl⟩
    go_wp2_with fail
    refine (told_any _).mono ?_
    rintro e w1 ⟨rfl, hw⟩
    have Hw1 := Lib.hid hw
    clear hw
    go_wp2_with fail
    go_ret
    exact ⟨rfl, Hw1.out⟩

end Go.Proofs.Ytlandgfmdhcjmaa
