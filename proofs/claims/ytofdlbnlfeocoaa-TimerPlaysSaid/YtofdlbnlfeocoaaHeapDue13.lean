/- What Due tells, in plain Lean. -/
import Derived.Test.YtofdlbnlfeocoaaHeapLaw13
import Derived.Test.YtofdlbnlfeocoaaTimers13
namespace Go.Proofs.Ytofdlbnlfeocoaa
set_option linter.unusedVariables false

theorem swp_perm (l : List T3) (i j : Nat) (hi : i < l.length) (hj : j < l.length) : (swp l i j).Perm l := by
  unfold swp
  rw [show l.getD j zz = l[j] by simp [hj], show l.getD i zz = l[i] by simp [hi]]
  exact List.set_set_perm hi hj

theorem up_perm : ∀ (f : Nat) (l : List T3) (j : Nat), j < l.length → (upL f l j).Perm l
  | 0, l, j, h => List.Perm.refl _
  | f + 1, l, j, h => by
    unfold upL
    by_cases h0 : (j - 1) / 2 = j ∨ ¬ ord (l.getD j zz) (l.getD ((j - 1) / 2) zz) < 0
    · rw [if_pos h0]
    · rw [if_neg h0]
      exact (up_perm f _ _ (by rw [swp_length]; omega)).trans (swp_perm l _ _ (by omega) h)

theorem down_perm : ∀ (f : Nat) (l : List T3) (N i : Nat), N ≤ l.length → i < l.length → (downL f l N i).1.Perm l
  | 0, l, N, i, h, hi => List.Perm.refl _
  | f + 1, l, N, i, h, hi => by
    rw [downL]
    by_cases h0 : N ≤ 2 * i + 1
    · rw [if_pos h0]
    · rw [if_neg h0]
      obtain ⟨k1, -⟩ := kid_is l N i h0
      by_cases h1 : ord (l.getD (kid l N i) zz) (l.getD i zz) < 0
      · rw [if_pos h1]
        exact (down_perm f _ N _ (by rw [swp_length]; omega) (by rw [swp_length]; omega)).trans (swp_perm l _ _ hi (by omega))
      · rw [if_neg h1]

theorem add_heap {l : List T3} (h : Hp l l.length) (p : T3) : Hp (upL (l.length + 1) (l ++ [p]) l.length) (l.length + 1) := by
  have := up_heap (l.length + 1) (l ++ [p]) l.length (by omega) (by simp) ?_
  · rwa [List.length_append] at this
  · rw [List.length_append]
    have e : ∀ i, i < l.length → at3 (l ++ [p]) i = at3 l i := by
      intro i hi
      unfold at3
      simp [List.getD, List.getElem?_append, hi]
    constructor
    · intro i i1 i2 i3
      simp at i2
      rw [e i (by omega), e _ (by omega)]
      exact h i i1 (by omega)
    · intro i i1 i2 i3 i4
      simp at i2
      omega

theorem pop_is (l : List T3) (n : Nat) (hl : l.length = n + 1) (h : Hp l (n + 1)) :
    at3 (popL l n) n = at3 l 0 ∧ Hp (popL l n) n ∧ (popL l n).length = n + 1 ∧ ((popL l n).take n ++ [at3 l 0]).Perm l := by
  have hs := swp_length l 0 n
  have hp : (popL l n).Perm l := (down_perm (n + 1) _ n 0 (by omega) (by omega)).trans (swp_perm l 0 n (by omega) (by omega))
  have hlen : (popL l n).length = n + 1 := by rw [hp.length_eq, hl]
  have htop : at3 (popL l n) n = at3 l 0 := by
    unfold popL
    by_cases h0 : n = 0
    · subst h0
      rw [down_end (by omega), at_swp _ _ _ _ (by omega) (by omega), if_pos rfl]
    · rw [down_far _ _ _ _ _ (Nat.le_refl _) (by omega) (by omega), at_swp _ _ _ _ (by omega) (by omega), if_pos rfl]
  refine ⟨htop, ?_, hlen, ?_⟩
  · refine down_heap (n + 1) _ n 0 (by omega) (by omega) (by omega) ⟨?_, fun c c1 c2 c3 c4 => by omega⟩
    intro c c1 c2 c3
    rw [at_swp _ _ _ _ (by omega) (by omega), at_swp _ _ _ _ (by omega) (by omega), if_neg (by omega), if_neg (by omega), if_neg (by omega), if_neg c3]
    exact h c c1 (by omega)
  · have e := hlast (popL l n) n hlen
    have : (popL l n).getD n zz = at3 l 0 := htop
    rw [this] at e
    rw [← e]
    exact hp

theorem Hp.take {l : List T3} {n : Nat} (h : Hp l n) (hn : n ≤ l.length) : Hp (l.take n) n := by
  intro i i1 i2
  have e : ∀ k, k < n → at3 (l.take n) k = at3 l k := by
    intro k hk
    unfold at3
    simp [List.getD, hk]
  rw [e i i2, e _ (by omega)]
  exact h i i1 i2

/-- What is told, and what is left. -/
def dueT : Nat → Int → List T3 → List T3 × List T3
  | 0, _, l => ([], l)
  | f + 1, now, l => if 0 < l.length ∧ (at3 l 0).1 ≤ now then
      let r := dueT f now ((popL l (l.length - 1)).take (l.length - 1))
      (at3 l 0 :: r.1, r.2)
    else ([], l)

theorem dueT_is : ∀ (f : Nat) (now : Int) (l : List T3), Hp l l.length → dueL f now l = ((dueT f now l).1.map (fun p => p.2.1), (dueT f now l).2)
  | 0, now, l, h => rfl
  | f + 1, now, l, h => by
    rw [dueL, dueT]
    by_cases h0 : 0 < l.length ∧ (at3 l 0).1 ≤ now
    · obtain ⟨p1, p2, p3, p4⟩ := pop_is l (l.length - 1) (by omega) (by rwa [show l.length - 1 + 1 = l.length by omega])
      rw [if_pos h0, if_pos (show 0 < l.length ∧ (l.getD 0 zz).1 ≤ now from h0)]
      have hl : ((popL l (l.length - 1)).take (l.length - 1)).length = l.length - 1 := by rw [List.length_take]; omega
      have ih := dueT_is f now ((popL l (l.length - 1)).take (l.length - 1)) (by rw [hl]; exact p2.take (by omega))
      dsimp only
      rw [ih, show (popL l (l.length - 1)).getD (l.length - 1) zz = at3 l 0 from p1]
      rfl
    · rw [if_neg h0, if_neg (show ¬ (0 < l.length ∧ (l.getD 0 zz).1 ≤ now) from h0)]
      rfl

/-- The laws of what is told. -/
theorem dueT_laws : ∀ (f : Nat) (now : Int) (l : List T3), Hp l l.length → l.length < f →
    ((dueT f now l).1 ++ (dueT f now l).2).Perm l ∧ Hp (dueT f now l).2 (dueT f now l).2.length ∧ (∀ p ∈ (dueT f now l).1, p.1 ≤ now) ∧ (∀ p ∈ (dueT f now l).2, now < p.1) ∧
      (dueT f now l).1.Pairwise (fun p q => ¬ lt3 q p)
  | 0, now, l, h, hf => by omega
  | f + 1, now, l, h, hf => by
    have top : ∀ p ∈ l, ¬ lt3 p (at3 l 0) := by
      intro p hp
      obtain ⟨i, hi, rfl⟩ := List.getElem_of_mem hp
      have := h.top i hi
      rwa [show at3 l i = l[i] by simp [at3, hi]] at this
    rw [dueT]
    by_cases h0 : 0 < l.length ∧ (at3 l 0).1 ≤ now
    · obtain ⟨p1, p2, p3, p4⟩ := pop_is l (l.length - 1) (by omega) (by rwa [show l.length - 1 + 1 = l.length by omega])
      rw [if_pos h0]
      have hl : ((popL l (l.length - 1)).take (l.length - 1)).length = l.length - 1 := by rw [List.length_take]; omega
      obtain ⟨a, b, c, d, e⟩ := dueT_laws f now ((popL l (l.length - 1)).take (l.length - 1)) (by rw [hl]; exact p2.take (by omega)) (by omega)
      dsimp only
      have hperm : (at3 l 0 :: ((dueT f now ((popL l (l.length - 1)).take (l.length - 1))).1 ++ (dueT f now ((popL l (l.length - 1)).take (l.length - 1))).2)).Perm l :=
        (List.Perm.cons _ a).trans ((List.perm_append_comm (l₁ := [at3 l 0])).trans p4)
      refine ⟨hperm, b, ?_, d, ?_⟩
      · intro p hp
        rcases List.mem_cons.1 hp with rfl | hp
        · exact h0.2
        · exact c p hp
      · refine List.Pairwise.cons ?_ e
        intro q hq
        exact top q (hperm.mem_iff.1 (by simp [hq]))
    · rw [if_neg h0]
      refine ⟨List.Perm.refl _, h, by simp, ?_, List.Pairwise.nil⟩
      intro p hp
      have := top p hp
      have h1 : 0 < l.length := List.length_pos_of_mem hp
      unfold lt3 at this
      by_cases h2 : now < p.1
      · exact h2
      · exact absurd ⟨h1, by omega⟩ h0

end Go.Proofs.Ytofdlbnlfeocoaa
