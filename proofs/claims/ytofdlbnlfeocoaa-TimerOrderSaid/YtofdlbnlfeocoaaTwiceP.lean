/- TimerTwice, plain. -/
import Derived.Test.YtofdlbnlfeocoaaTS13
namespace Go.Proofs.Ytofdlbnlfeocoaa
set_option linter.unusedVariables false

/-- Who is told. -/
def gs (l : List T3) : List Int := l.map (fun p => p.2.1)
def ones (l : List Int) : Nat := (l.filter (fun g => g == 1)).length

/-- Behind the taking out of the earlier one. -/
theorem twice_del (x y z : Int) : ∃ s S3, insT (y, 1, ((2 : Nat) : Int) + 1) (insT (z, 2, ((1 : Nat) : Int) + 1) (insT (x, 1, ((0 : Nat) : Int) + 1) [])) = S3 ∧ S3.length = 3 ∧ (at3 S3 0).1 = min (min x y) z ∧ S3.any (fun p => p.2.1 == 1) = true ∧
    (delS 1 S3 = [(max x y, 1, s), (z, 2, 2)] ∨ delS 1 S3 = [(z, 2, 2), (max x y, 1, s)]) := by
  by_cases h1 : z < x
  · by_cases h2 : y < z
    · exact ⟨1, _, rfl, by simp [insT, h1, h2], by simp [insT, h1, h2, at3]; omega, by simp [insT, h1, h2], .inr (by simp [insT, h1, h2, delS]; omega)⟩
    · by_cases h3 : y < x
      · exact ⟨1, _, rfl, by simp [insT, h1, h2, h3], by simp [insT, h1, h2, h3, at3]; omega, by simp [insT, h1, h2, h3], .inr (by simp [insT, h1, h2, h3, delS, List.eraseP]; omega)⟩
      · exact ⟨3, _, rfl, by simp [insT, h1, h2, h3], by simp [insT, h1, h2, h3, at3]; omega, by simp [insT, h1, h2, h3], .inr (by simp [insT, h1, h2, h3, delS, List.eraseP]; omega)⟩
  · by_cases h2 : y < x
    · exact ⟨1, _, rfl, by simp [insT, h1, h2], by simp [insT, h1, h2, at3]; omega, by simp [insT, h1, h2], .inl (by simp [insT, h1, h2, delS]; omega)⟩
    · by_cases h3 : y < z
      · exact ⟨3, _, rfl, by simp [insT, h1, h2, h3], by simp [insT, h1, h2, h3, at3]; omega, by simp [insT, h1, h2, h3], .inl (by simp [insT, h1, h2, h3, delS]; omega)⟩
      · exact ⟨3, _, rfl, by simp [insT, h1, h2, h3], by simp [insT, h1, h2, h3, at3]; omega, by simp [insT, h1, h2, h3], .inr (by simp [insT, h1, h2, h3, delS]; omega)⟩

theorem twice_due (x y z s : Int) (S : List T3) (hx : x < 100) (hy : y < 100) (hz : z < 100) (h : S = [(max x y, 1, s), (z, 2, 2)] ∨ S = [(z, 2, 2), (max x y, 1, s)]) :
    S.length = 2 ∧ (decide (ones (gs (dueS (min x y) S)) = 1) = decide (x = y)) ∧ ones (gs (dueS (min x y) S)) ≤ 1 ∧ ones (gs (dueS (min x y) S)) + ones (gs (dueS 100 (leftS (min x y) S))) = 1 ∧
    (gs (dueS (min x y) S)).length + (gs (dueS 100 (leftS (min x y) S))).length = 2 ∧ leftS 100 (leftS (min x y) S) = [] := by
  have hm : max x y < 100 := by omega
  by_cases e : x = y
  · subst e
    have m1 : max x x = x := by omega
    have m2 : min x x = x := by omega
    rw [m1] at h hm
    rw [m2]
    have n1 : ¬ x < x := by omega
    have n2 : ¬ 100 < z := by omega
    have n4 : z ≤ 100 := by omega
    by_cases c : z ≤ x
    · have n3 : ¬ x < z := by omega
      rcases h with rfl | rfl <;> simp [ones, gs, dueS, leftS, c, n3]
    · have n3 : x < z := by omega
      rcases h with rfl | rfl <;> simp [ones, gs, dueS, leftS, c, n3, n4, n2]
  · have k1 : ¬ max x y ≤ min x y := by omega
    have k2 : min x y < max x y := by omega
    have k3 : max x y ≤ 100 := by omega
    have k4 : ¬ 100 < max x y := by omega
    have n2 : ¬ 100 < z := by omega
    have n4 : z ≤ 100 := by omega
    generalize max x y = M at *
    generalize min x y = m at *
    by_cases c : z ≤ m
    · have n3 : ¬ m < z := by omega
      rcases h with rfl | rfl <;> simp [ones, gs, dueS, leftS, c, n3, k1, k2, k3, k4, e]
    · have n3 : m < z := by omega
      rcases h with rfl | rfl <;> simp [ones, gs, dueS, leftS, c, n3, k1, k2, k3, k4, e, n2, n4]

theorem ones_snoc (l : List Int) (k : Nat) (h : k < l.length) : ones (l.take (k + 1)) = ones (l.take k) + if l.getD k 0 == 1 then 1 else 0 := by
  rw [List.take_succ_eq_append_getElem h]
  unfold ones
  rw [List.filter_append, List.length_append]
  have : l.getD k 0 = l[k] := by simp [h]
  rw [this]
  by_cases e : (l[k] == 1) = true <;> simp [e]

end Go.Proofs.Ytofdlbnlfeocoaa
