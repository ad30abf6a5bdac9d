/- FixFloats: a float is at least its number and less than one part above it; a number's float comes back: for every float, every number. -/
import Derived.Test.YtdmoacihidligaaTold1
import Derived.Test.YtdmoacihidligaaFltVals
namespace Go.Proofs.Ytdmoacihidligaa
open Ieee Go.RowKit
set_option linter.unusedVariables false

theorem hi32 : HasV 4751297606875873280 (4294967296 * T) := ⟨⟨false, 4503599627370496, -20, by decide +kernel, by omega, by omega, by decide +kernel⟩⟩
theorem lo32 : HasV 13974669643730649088 (-4294967296 * T) := ⟨⟨true, 4503599627370496, -20, by decide +kernel, by omega, by omega, by decide +kernel⟩⟩

set_option maxHeartbeats 400000 in
theorem floats_out (x : Nat) (n m : Int) (r : Nat) (w : World) (hm : n.tmod 9007199254740992 = m) (m1 : -9007199254740992 < m) (m2 : m < 9007199254740992)
    (ho : (FloatKind.f64.format.order x 13974669643730649088 == some .gt) = false ∨ ((FloatKind.f64.format.order x 13974669643730649088 == some .gt) = true ∧ (FloatKind.f64.format.order x 4751297606875873280 == some .lt) = false))
    (R1 : Hid (∀ w, Calls Try.prog 20 #[.int .i64 m] w fun e w' => e = .returned (.float .f64 r) ∧ w = w')) (R2 : Hid (∀ w, Calls Try.prog 18 #[.float .f64 r] w fun e w' => e = .returned (.int .i64 m) ∧ w = w')) :
    Calls Try.prog 5 #[.float .f64 x, .int .i64 n] w fun e w' => e = .returned (.bool true) ∧ Grown w w' := by
  rcases ho with o1 | ⟨o1, o2⟩
  all_goals
    go_enter Try.func5, Try.ntmps5
    go_wp2_with fail
    refine (told_any _).mono ?_
    rintro e w1 ⟨rfl, hw⟩
    have Hw1 := Lib.hid hw
    clear hw
    go_wp2_with fail
    refine (R1.out _).mono ?_
    rintro e w' ⟨rfl, rfl⟩
    go_wp2_with fail
    refine (R2.out _).mono ?_
    rintro e w' ⟨rfl, rfl⟩
    go_wp2_with fail
    go_ret
    exact ⟨rfl, Hw1.out.grown⟩

set_option maxHeartbeats 400000 in
theorem floats_in (x : Nat) (n m a : Int) (r s s' : Nat) (w : World) (hm : n.tmod 9007199254740992 = m) (m1 : -9007199254740992 < m) (m2 : m < 9007199254740992) (a1 : -4503599627370496 ≤ a) (a2 : a ≤ 4503599627370496)
    (o1 : (FloatKind.f64.format.order x 13974669643730649088 == some .gt) = true) (o2 : (FloatKind.f64.format.order x 4751297606875873280 == some .lt) = true)
    (hs : FloatKind.f64.format.order s x = some .lt ∨ FloatKind.f64.format.order s x = some .eq) (o3 : FloatKind.f64.format.order x s' = some .lt)
    (R1 : Hid (∀ w, Calls Try.prog 20 #[.int .i64 m] w fun e w' => e = .returned (.float .f64 r) ∧ w = w')) (R2 : Hid (∀ w, Calls Try.prog 18 #[.float .f64 r] w fun e w' => e = .returned (.int .i64 m) ∧ w = w'))
    (A0 : Hid (∀ w, Calls Try.prog 18 #[.float .f64 x] w fun e w' => e = .returned (.int .i64 a) ∧ w = w')) (A1 : Hid (∀ w, Calls Try.prog 20 #[.int .i64 a] w fun e w' => e = .returned (.float .f64 s) ∧ w = w')) (A2 : Hid (∀ w, Calls Try.prog 20 #[.int .i64 (a + 1)] w fun e w' => e = .returned (.float .f64 s') ∧ w = w')) :
    Calls Try.prog 5 #[.float .f64 x, .int .i64 n] w fun e w' => e = .returned (.bool true) ∧ Grown w w' := by
  rcases hs with o4 | o4
  all_goals
    go_enter Try.func5, Try.ntmps5
    go_wp2_with fail
    refine (A0.out _).mono ?_
    rintro e w' ⟨rfl, rfl⟩
    go_wp2_with fail
    refine (told_any _).mono ?_
    rintro e w1 ⟨rfl, hw⟩
    have Hw1 := Lib.hid hw
    clear hw
    go_wp2_with fail
    refine (A1.out _).mono ?_
    rintro e w' ⟨rfl, rfl⟩
    go_wp2_with fail
    refine (A2.out _).mono ?_
    rintro e w' ⟨rfl, rfl⟩
    go_wp2_with fail
    refine (R1.out _).mono ?_
    rintro e w' ⟨rfl, rfl⟩
    go_wp2_with fail
    refine (R2.out _).mono ?_
    rintro e w' ⟨rfl, rfl⟩
    go_wp2_with fail
    go_ret
    exact ⟨rfl, Hw1.out.grown⟩

theorem walk_FixFloats (x : Nat) (n : Int) (w : World) :
    Calls Try.prog 5 #[.float .f64 x, .int .i64 n] w fun e w' => e = .returned (.bool true) ∧ Grown w w' := by
  obtain ⟨m, hm⟩ : ∃ m, n.tmod 9007199254740992 = m := ⟨_, rfl⟩
  have m1 : -9007199254740992 < m := by rw [← hm]; have := Int.lt_tmod_of_pos n (b := 9007199254740992) (by omega); omega
  have m2 : m < 9007199254740992 := by rw [← hm]; exact Int.tmod_lt_of_pos n (by omega)
  obtain ⟨r, R1, R2⟩ := float_real m (by omega)
  by_cases c1 : (FloatKind.f64.format.order x 13974669643730649088 == some .gt) = true
  · by_cases c2 : (FloatKind.f64.format.order x 4751297606875873280 == some .lt) = true
    · rcases read_cases x with ⟨s, f, h⟩ | ⟨s, h⟩ | ⟨V, h⟩
      · exfalso
        have : FloatKind.f64.format.order x 13974669643730649088 = none := by
          show double.order _ _ = none
          unfold Format.order; rw [h]; rfl
        rw [this] at c1; cases c1
      · exfalso
        obtain ⟨a, b, c, ha, -⟩ := hi32.ex
        obtain ⟨a', b', c', hb, -⟩ := lo32.ex
        have q1 : FloatKind.f64.format.order x 4751297606875873280 = some (if s then .lt else .gt) := by
          show double.order _ _ = _
          unfold Format.order; rw [h, ha]; rfl
        have q2 : FloatKind.f64.format.order x 13974669643730649088 = some (if s then .lt else .gt) := by
          show double.order _ _ = _
          unfold Format.order; rw [h, hb]; rfl
        rw [q1] at c2; rw [q2] at c1
        cases s
        · exact absurd c2 (by decide)
        · exact absurd c1 (by decide)
      · have q1 : FloatKind.f64.format.order x 4751297606875873280 = _ := order_val h hi32
        have q2 : FloatKind.f64.format.order x 13974669643730649088 = _ := order_val h lo32
        have l1 : V < 4294967296 * T := by
          rw [q1] at c2
          exact Int.compare_eq_lt.1 (Option.some.inj (eq_of_beq c2))
        have l2 : -4294967296 * T < V := by
          rw [q2] at c1
          exact Int.compare_eq_gt.1 (Option.some.inj (eq_of_beq c1))
        obtain ⟨a, s, s', a1, a2, A0, A1, A2, hs, o3⟩ := float_between h l2 l1
        exact floats_in x n m a r s s' w hm m1 m2 a1 a2 c1 c2 hs o3 R1 R2 A0 A1 A2
    · exact floats_out x n m r w hm m1 m2 (.inr ⟨c1, by simpa using c2⟩) R1 R2
  · exact floats_out x n m r w hm m1 m2 (.inl (by simpa using c1)) R1 R2

end Go.Proofs.Ytdmoacihidligaa
