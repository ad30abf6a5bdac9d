/- Package conf: when two configurations come to the same. -/
import Derived.Test.YtlandgfmdhcjmaaTold2
namespace Go.Proofs.Ytlandgfmdhcjmaa
open Ieee Go.RowKit
set_option linter.unusedVariables false

abbrev cfg (ps words : Int) (x y : Nat) : Value := .agg #[.int .i64 ps, .int .i64 words, .float .f64 x, .float .f64 y]

theorem Box.four {w : World} {b : Nat} {x0 x1 x2 x3 : Value} {t : TypeId} (h : Box w b #[x0, x1, x2, x3] t) : ∀ o : Out w, o.w.cell? ⟨b, 0, none⟩ = some x0 ∧ o.w.cell? ⟨b, 1, none⟩ = some x1 ∧ o.w.cell? ⟨b, 2, none⟩ = some x2 ∧ o.w.cell? ⟨b, 3, none⟩ = some x3 :=
  fun o => ⟨h.out 0 o, h.out 1 o, h.out 2 o, h.out 3 o⟩

/-- The first of the five that parts. -/
theorem same_key (a b c d n m : Int) (s t : Bool) (p q : Int) (v : Bool) (hv : (decide (a = b ∧ c = d ∧ n = m ∧ s = t ∧ p = q)) = v) :
    ((a == b) = true ∧ (c == d) = true ∧ (n == m) = true ∧ (s == t) = true ∧ (p == q) = true ∧ v = true) ∨ ((a == b) = false ∧ v = false) ∨ ((a == b) = true ∧ (c == d) = false ∧ v = false) ∨ ((a == b) = true ∧ (c == d) = true ∧ (n == m) = false ∧ v = false) ∨
    ((a == b) = true ∧ (c == d) = true ∧ (n == m) = true ∧ (s == t) = false ∧ v = false) ∨ ((a == b) = true ∧ (c == d) = true ∧ (n == m) = true ∧ (s == t) = true ∧ (p == q) = false ∧ v = false) := by
  by_cases h1 : a = b
  · by_cases h2 : c = d
    · by_cases h3 : n = m
      · by_cases h4 : s = t
        · by_cases h5 : p = q
          · simp [h1, h2, h3, h4, h5] at hv; simp [*]
          · simp [h1, h2, h3, h4, h5] at hv; simp [*]
        · simp [h1, h2, h3, h4] at hv; simp [*]
      · simp [h1, h2, h3] at hv; simp [*]
    · simp [h1, h2] at hv; simp [*]
  · simp [h1] at hv; simp [*]

theorem two_boxes (w : World) (A B : Array Value) (t : TypeId) : Ex w ((w.alloc (.cells A t)).alloc (.cells B t)) ∧ Box ((w.alloc (.cells A t)).alloc (.cells B t)) w.heap.size A t ∧ Box ((w.alloc (.cells A t)).alloc (.cells B t)) (w.heap.size + 1) B t :=
  ⟨Ex.trans (Ex.made _ _) (Ex.made _ _), (Box.fresh w A t).next (Ex.refl _), by have := Box.fresh (w.alloc (.cells A t)) B t; simpa using this⟩

set_option maxHeartbeats 1600000 in
theorem same_any (a c b d : Int) (x x' y y' : Nat) (n m : Int) (s t : Bool) (p q : Int) (v : Bool) (w : World) (hv : (decide (a = b ∧ c = d ∧ n = m ∧ s = t ∧ p = q)) = v)
    (HA : Hid (∀ w, Calls Try.prog 7 #[.float .f64 x] w fun e w' => e = .returned (.tuple #[.int .i64 n, .bool s]) ∧ w = w')) (HB : Hid (∀ w, Calls Try.prog 7 #[.float .f64 y] w fun e w' => e = .returned (.tuple #[.int .i64 m, .bool t]) ∧ w = w'))
    (HP : Hid (∀ w, Calls Try.prog 8 #[.float .f64 x'] w fun e w' => e = .returned (.int .i64 p) ∧ w = w')) (HQ : Hid (∀ w, Calls Try.prog 8 #[.float .f64 y'] w fun e w' => e = .returned (.int .i64 q) ∧ w = w')) :
    Calls Try.prog 15 #[cfg a c x x', cfg b d y y'] w fun e w' => e = .returned (.bool v) ∧ Ex w w' := by
  have key := same_key a b c d n m s t p q v hv
  clear hv
  rcases key with ⟨h1, h2, h3, h4, h5, rfl⟩ | ⟨h1, rfl⟩ | ⟨h1, h2, rfl⟩ | ⟨h1, h2, h3, rfl⟩ | ⟨h1, h2, h3, h4, rfl⟩ | ⟨h1, h2, h3, h4, h5, rfl⟩
  all_goals
    go_enter Try.func15, Try.ntmps15
    go_wp2_with fail
    refine (HA.out _).mono ?_
    rintro e w' ⟨rfl, rfl⟩
    go_wp2_with fail
    refine (HB.out _).mono ?_
    rintro e w' ⟨rfl, rfl⟩
    go_wp2_with fail
    obtain ⟨e0, b1, b2⟩ := two_boxes w #[.int .i64 a, .int .i64 c, .float .f64 x, .float .f64 x'] #[.int .i64 b, .int .i64 d, .float .f64 y, .float .f64 y'] 31
    have E0 := Lib.hid e0
    have B1 := b1.four
    have B2 := b2.four
    clear e0 b1 b2
    obtain ⟨W3, hW3⟩ : ∃ W3, W3 = (w.alloc (.cells #[.int .i64 a, .int .i64 c, .float .f64 x, .float .f64 x'] 31)).alloc (.cells #[.int .i64 b, .int .i64 d, .float .f64 y, .float .f64 y'] 31) := ⟨_, rfl⟩
    rw [← hW3] at E0 B1 B2 ⊢
    clear hW3
    refine wp_region_ex (by kernel_rfl) (by kernel_rfl) ?_
    try simp only [List.append]
    repeat (go_big_quiet_step ((go_at_call 8; first | (with_reducible exact quiet_eq (HP.out _)) | (with_reducible exact quiet_eq (HQ.out _)))))
    refine wpQuiet_nil ?_
    rintro w4 ⟨⟨wz, hw⟩, rfl⟩
    have Hw4 := Lib.hid (E0.out.trans hw)
    clear B1 B2 hw
    go_wp2_with fail
    go_ret
    exact ⟨rfl, Hw4.out⟩

end Go.Proofs.Ytlandgfmdhcjmaa
