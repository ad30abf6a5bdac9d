/- Layer 12: the law's own few examples; StateMay. -/
import Derived.Test.YtbdnpjbookhebaaAlive
namespace Go.Proofs.Ytbdnpjbookhebaa
open Go.RowKit
set_option linter.unusedVariables false

theorem St.own {w : World} {b : Nat} {v : Value} {l : List Nat} (h : St w b v l) {k : Nat} (hk : Of b v k) : b ≤ k := by
  rcases hk with rfl | hk
  · omega
  · have := h.row.lt k hk; omega
theorem Nxt.below {w w' : World} {b : Nat} {v : Value} {l l' : List Nat} (h : St w b v l) (k : Nxt w b v l' w') : Below b w w' := by
  obtain ⟨v', -, hc, -⟩ := k
  exact hc.below (by have := h.box.lt; omega) (fun i hi => h.own hi)

theorem rmay_any (f t : Int) (w : World) : Calls Try.prog 9 #[.int .i64 f, .int .i64 t] w fun e w' => e = .returned (.bool (mayB f t)) ∧ w = w' := by
  have key : (f = 1 ∧ mayB f t = (t == 2)) ∨ (f = 2 ∧ ((t = 1 ∧ mayB f t = true) ∨ (t = 3 ∧ mayB f t = true) ∨ (t = 4 ∧ mayB f t = true) ∨ (t = 5 ∧ mayB f t = true) ∨ ((t == 1) = false ∧ (t == 3) = false ∧ (t == 4) = false ∧ (t == 5) = false ∧ mayB f t = false))) ∨ (f = 3 ∧ mayB f t = (t == 1)) ∨ (f = 4 ∧ mayB f t = (t == 1)) ∨ ((f == 1) = false ∧ (f == 2) = false ∧ (f == 3) = false ∧ (f == 4) = false ∧ mayB f t = false) := by
    unfold mayB
    by_cases h1 : f = 1
    · left; subst h1; refine ⟨rfl, ?_⟩; rw [Bool.eq_iff_iff]; simp
    · by_cases h2 : f = 2
      · right; left
        subst h2
        refine ⟨rfl, ?_⟩
        by_cases a : t = 1
        · exact .inl ⟨a, by simp [a]⟩
        · by_cases b : t = 3
          · exact .inr (.inl ⟨b, by simp [b]⟩)
          · by_cases c : t = 4
            · exact .inr (.inr (.inl ⟨c, by simp [c]⟩))
            · by_cases d : t = 5
              · exact .inr (.inr (.inr (.inl ⟨d, by simp [d]⟩)))
              · exact .inr (.inr (.inr (.inr ⟨by simpa using a, by simpa using b, by simpa using c, by simpa using d, by simp [a, b, c, d]⟩)))
      · by_cases h3 : f = 3
        · right; right; left; subst h3; refine ⟨rfl, ?_⟩; rw [Bool.eq_iff_iff]; simp
        · by_cases h4 : f = 4
          · right; right; right; left; subst h4; refine ⟨rfl, ?_⟩; rw [Bool.eq_iff_iff]; simp
          · right; right; right; right
            exact ⟨by simpa using h1, by simpa using h2, by simpa using h3, by simpa using h4, by simp [h1, h2, h3, h4]⟩
  obtain ⟨b, hb⟩ : ∃ b, mayB f t = b := ⟨_, rfl⟩
  rw [hb] at key ⊢
  clear hb
  rcases key with ⟨rfl, rfl⟩ | ⟨rfl, ⟨rfl, rfl⟩ | ⟨rfl, rfl⟩ | ⟨rfl, rfl⟩ | ⟨rfl, rfl⟩ | ⟨h1, h2, h3, h4, rfl⟩⟩ | ⟨rfl, rfl⟩ | ⟨rfl, rfl⟩ | ⟨h1, h2, h3, h4, rfl⟩
  all_goals
    go_enter Try.func9, Try.ntmps9
    go_wp2
    go_ret
    exact ⟨rfl, rfl⟩

/-- Alive, at a list that is known. -/
theorem alive_shape {w w1 : World} {l : List Nat} {e : Ending} {n : Nat} (h : AliveIs w l e w1) (hn : (aliveTo l l.length).length = n) : ∃ a cap, e = .returned (.slice a n cap) ∧ n ≤ cap ∧ cap ≤ maxLen ∧ w1.ownsRow w.heap.size 3 1 (.slice a n cap) n (ints (aliveTo l l.length)) ∧ Ex w w1 := by
  obtain ⟨v, rfl, ho, hx⟩ := h
  rw [hn] at ho
  rcases row_shape ho with ⟨h1, h2, -⟩ | ⟨g, cap, h1, -, -, h3, h4⟩
  · subst h2; subst h1
    exact ⟨none, 0, rfl, Nat.le_refl _, by unfold maxLen; omega, ho, hx⟩
  · subst h1
    exact ⟨_, cap, rfl, h3, h4, ho, hx⟩

set_option maxRecDepth 10000 in
set_option maxHeartbeats 1600000 in
theorem told_any (w : World) : Calls Try.prog 14 #[] w fun e w' => e = .returned (.bool true) ∧ Ex w w' := by
  go_enter Try.func14, Try.ntmps14
  go_wp2_with fail
  refine (new_any _).mono ?_
  rintro e w1 ⟨rfl, h1, hx1, -⟩
  have H1 := Lib.hid h1
  have X1 : Hid (Below w.heap.size w w1) := Lib.hid hx1
  clear h1 hx1
  go_wp2_with fail
  refine (spawn_any H1.out (by simp)).mono ?_
  rintro e w2 ⟨rfl, hn⟩
  have X2 := Lib.hid (X1.out.trans (Nxt.below H1.out hn))
  obtain ⟨v2, h2, -, -⟩ := hn
  have H2 := Lib.hid h2
  clear h2
  go_wp2_with fail
  refine (move_no H2.out 0 (by simp) 1 5 rfl (by decide)).mono ?_
  rintro e w3 ⟨rfl, hx⟩
  have X3 := Lib.hid (X2.out.trans (Below.mono hx X2.out.size))
  have H3 := Lib.hid (H2.out.ex hx)
  clear hx
  go_wp2_with fail
  refine (move_yes H3.out 0 (by simp) 1 2 rfl (by decide)).mono ?_
  rintro e w4 ⟨rfl, hn⟩
  have X4 := Lib.hid (X3.out.trans (Nxt.below H3.out hn))
  obtain ⟨v4, h4, -, -⟩ := hn
  have H4 := Lib.hid h4
  clear h4
  go_wp2_with fail
  refine (move_yes H4.out 0 (by simp) 2 5 rfl (by decide)).mono ?_
  rintro e w5 ⟨rfl, hn⟩
  have X5 := Lib.hid (X4.out.trans (Nxt.below H4.out hn))
  obtain ⟨v5, h5, -, -⟩ := hn
  have H5 : Hid (St w5 w.heap.size v5 [5]) := Lib.hid h5
  clear h5
  go_wp2_with fail
  refine (count_any H5.out 5 (by omega) (by omega)).mono ?_
  rintro e w' ⟨rfl, rfl⟩
  go_wp2_with fail
  refine (alive_any H5.out).mono ?_
  intro e w6 hal
  obtain ⟨a, cap, rfl, q1, q2, -, hx⟩ := alive_shape (n := 0) hal (by decide)
  have X6 := Lib.hid (X5.out.trans (Below.mono hx X5.out.size))
  have H6 := Lib.hid (H5.out.ex hx)
  clear hx hal
  go_wp2_with fail
  refine (of_out H6.out 5 (.inr ⟨by omega, by simp⟩)).mono ?_
  rintro e w' ⟨rfl, rfl⟩
  go_wp2_with fail
  refine (may_any 3 1 _).mono ?_
  rw [show mayB 3 1 = true from by decide]
  rintro e w7 ⟨rfl, hx⟩
  have X7 := Lib.hid (X6.out.trans (Below.mono hx X6.out.size))
  clear hx
  go_wp2_with fail
  go_ret
  exact ⟨rfl, X7.out⟩

end Go.Proofs.Ytbdnpjbookhebaa
