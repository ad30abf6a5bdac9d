/- Heaps, in plain Lean. -/
import Derived.Test.YtofdlbnlfeocoaaDown13
namespace Go.Proofs.Ytofdlbnlfeocoaa
set_option linter.unusedVariables false

abbrev T3 := Int × Int × Int
def lt3 (p q : T3) : Prop := p.1 < q.1 ∨ (p.1 = q.1 ∧ p.2.2 < q.2.2)
theorem ord_neg (p q : T3) : ord p q < 0 ↔ lt3 p q := by
  unfold ord cmpI lt3
  by_cases h1 : p.1 < q.1
  · simp [h1]
  · by_cases h2 : q.1 < p.1
    · simp [h1, h2]; omega
    · have e : p.1 = q.1 := by omega
      by_cases h3 : p.2.2 < q.2.2
      · simp [e, h3]
      · by_cases h4 : q.2.2 < p.2.2
        · simp [e, h3, h4]
        · simp [e, h3, h4]

theorem lt3_trans {p q r : T3} (h : lt3 p q) (k : lt3 q r) : lt3 p r := by unfold lt3 at *; omega
theorem nlt3_trans {p q r : T3} (h : ¬ lt3 q p) (k : ¬ lt3 r q) : ¬ lt3 r p := by unfold lt3 at *; omega
theorem lt3_asymm {p q : T3} (h : lt3 p q) : ¬ lt3 q p := by unfold lt3 at *; omega

/-- The i-th. -/
def at3 (l : List T3) (i : Nat) : T3 := l.getD i zz
theorem at_swp (l : List T3) (i j k : Nat) (hi : i < l.length) (hj : j < l.length) : at3 (swp l i j) k = if k = j then at3 l i else if k = i then at3 l j else at3 l k := by
  unfold at3 swp
  by_cases h1 : k = j
  · subst h1; simp [hj]
  · by_cases h2 : k = i
    · subst h2; simp [h1, Ne.symm h1, hi]
    · simp [h1, h2, Ne.symm h1, Ne.symm h2]

/-- The first N are a heap. -/
def Hp (l : List T3) (N : Nat) : Prop := ∀ i, 0 < i → i < N → ¬ lt3 (at3 l i) (at3 l ((i - 1) / 2))

theorem Hp.top {l : List T3} {N : Nat} (h : Hp l N) : ∀ i, i < N → ¬ lt3 (at3 l i) (at3 l 0) := by
  intro i
  induction i using Nat.strongRecOn with
  | ind i ih =>
    intro hi
    by_cases h0 : i = 0
    · subst h0; unfold lt3; omega
    · exact nlt3_trans (ih ((i - 1) / 2) (by omega) (by omega)) (h i (by omega) hi)

/-- A heap but for j, which may be too small. -/
structure UpI (l : List T3) (N j : Nat) : Prop where
  edge : ∀ i, 0 < i → i < N → i ≠ j → ¬ lt3 (at3 l i) (at3 l ((i - 1) / 2))
  kids : ∀ i, 0 < i → i < N → (i - 1) / 2 = j → 0 < j → ¬ lt3 (at3 l i) (at3 l ((j - 1) / 2))

theorem up_heap : ∀ (f : Nat) (l : List T3) (j : Nat), j < f → j < l.length → UpI l l.length j → Hp (upL f l j) l.length
  | 0, l, j, h, _, _ => by omega
  | f + 1, l, j, h, hj, hu => by
    unfold upL
    by_cases h0 : (j - 1) / 2 = j ∨ ¬ ord (l.getD j zz) (l.getD ((j - 1) / 2) zz) < 0
    · rw [if_pos h0]
      intro i h1 h2
      by_cases hij : i = j
      · subst hij
        rcases h0 with h0 | h0
        · omega
        · exact fun k => h0 ((ord_neg _ _).2 k)
      · exact hu.edge i h1 h2 hij
    · rw [if_neg h0]
      have h1 : (j - 1) / 2 ≠ j := fun e => h0 (.inl e)
      have h2 : lt3 (at3 l j) (at3 l ((j - 1) / 2)) := (ord_neg _ _).1 (Classical.byContradiction fun e => h0 (.inr e))
      have hlt : (j - 1) / 2 < j := by omega
      have hk : (j - 1) / 2 < l.length := by omega
      have := up_heap f (swp l ((j - 1) / 2) j) ((j - 1) / 2) (by omega) (by rw [swp_length]; omega) ?_
      · rwa [swp_length] at this
      · rw [swp_length]
        constructor
        · intro i i1 i2 i3
          rw [at_swp _ _ _ _ hk hj, at_swp _ _ _ _ hk hj]
          by_cases a1 : i = j
          · subst a1
            rw [if_pos rfl, if_neg (by omega), if_pos rfl]
            exact lt3_asymm h2
          · rw [if_neg a1, if_neg i3]
            by_cases a2 : (i - 1) / 2 = j
            · rw [if_pos a2]
              exact hu.kids i i1 i2 a2 (by omega)
            · rw [if_neg a2]
              by_cases a3 : (i - 1) / 2 = (j - 1) / 2
              · rw [if_pos a3]
                have := hu.edge i i1 i2 a1
                rw [a3] at this
                exact nlt3_trans (lt3_asymm h2) this
              · rw [if_neg a3]
                exact hu.edge i i1 i2 a1
        · intro i i1 i2 i3 i4
          have e2 := hu.edge ((j - 1) / 2) i4 (by omega) (by omega)
          rw [at_swp _ _ _ _ hk hj, at_swp _ _ _ _ hk hj, if_neg (show ((j - 1) / 2 - 1) / 2 ≠ j by omega), if_neg (show ((j - 1) / 2 - 1) / 2 ≠ (j - 1) / 2 by omega)]
          by_cases a1 : i = j
          · rw [if_pos a1]; exact e2
          · rw [if_neg a1, if_neg (by omega)]
            have := hu.edge i i1 i2 a1
            rw [i3] at this
            exact nlt3_trans e2 this

/-- A heap but for i, which may be too great. -/
structure DownI (l : List T3) (N i : Nat) : Prop where
  edge : ∀ c, 0 < c → c < N → (c - 1) / 2 ≠ i → ¬ lt3 (at3 l c) (at3 l ((c - 1) / 2))
  kids : ∀ c, 0 < c → c < N → (c - 1) / 2 = i → 0 < i → ¬ lt3 (at3 l c) (at3 l ((i - 1) / 2))

theorem kid_is (l : List T3) (N i : Nat) (h : ¬ N ≤ 2 * i + 1) : kid l N i < N ∧ (kid l N i - 1) / 2 = i ∧ i < kid l N i ∧ ∀ c, 0 < c → c < N → (c - 1) / 2 = i → ¬ lt3 (at3 l c) (at3 l (kid l N i)) := by
  unfold kid
  by_cases h1 : 2 * i + 2 < N ∧ ord (l.getD (2 * i + 2) zz) (l.getD (2 * i + 1) zz) < 0
  · rw [if_pos h1]
    refine ⟨h1.1, by omega, by omega, ?_⟩
    intro c c1 c2 c3
    have h2 : lt3 (at3 l (2 * i + 2)) (at3 l (2 * i + 1)) := (ord_neg _ _).1 h1.2
    have hc : c = 2 * i + 1 ∨ c = 2 * i + 2 := by omega
    rcases hc with rfl | rfl
    · exact lt3_asymm h2
    · unfold lt3; omega
  · rw [if_neg h1]
    refine ⟨by omega, by omega, by omega, ?_⟩
    intro c c1 c2 c3
    have hc : c = 2 * i + 1 ∨ c = 2 * i + 2 := by omega
    rcases hc with rfl | rfl
    · unfold lt3; omega
    · exact fun k => h1 ⟨c2, (ord_neg _ _).2 k⟩

theorem down_heap : ∀ (f : Nat) (l : List T3) (N i : Nat), N ≤ f + i → N ≤ l.length → i < l.length → DownI l N i → Hp (downL f l N i).1 N
  | 0, l, N, i, h, hN, hi, hd => fun c c1 c2 => hd.edge c c1 c2 (by omega)
  | f + 1, l, N, i, h, hN, hi, hd => by
    rw [downL]
    by_cases h0 : N ≤ 2 * i + 1
    · rw [if_pos h0]
      exact fun c c1 c2 => hd.edge c c1 c2 (by omega)
    · rw [if_neg h0]
      obtain ⟨k1, k2, k3, k4⟩ := kid_is l N i h0
      generalize kid l N i = J at *
      by_cases h1 : ord (l.getD J zz) (l.getD i zz) < 0
      · rw [if_pos h1]
        have h2 : lt3 (at3 l J) (at3 l i) := (ord_neg _ _).1 h1
        refine down_heap f (swp l i J) N J (by omega) (by rw [swp_length]; omega) (by rw [swp_length]; omega) ?_
        constructor
        · intro c c1 c2 c3
          rw [at_swp _ _ _ _ hi (by omega), at_swp _ _ _ _ hi (by omega)]
          rw [if_neg c3]
          by_cases a1 : c = J
          · subst a1
            rw [if_pos rfl, if_pos k2]
            exact lt3_asymm h2
          · rw [if_neg a1]
            by_cases a2 : c = i
            · subst a2
              rw [if_pos rfl, if_neg (by omega)]
              exact hd.kids J (by omega) k1 k2 c1
            · rw [if_neg a2]
              by_cases a3 : (c - 1) / 2 = i
              · rw [if_pos a3]
                exact k4 c c1 c2 a3
              · rw [if_neg a3]
                exact hd.edge c c1 c2 a3
        · intro c c1 c2 c3 c4
          rw [at_swp _ _ _ _ hi (by omega), at_swp _ _ _ _ hi (by omega)]
          rw [if_neg (show c ≠ J by omega), if_neg (show c ≠ i by omega), if_neg (show (J - 1) / 2 ≠ J by omega), if_pos k2]
          have := hd.edge c c1 c2 (by omega)
          rwa [c3] at this
      · rw [if_neg h1]
        intro c c1 c2
        by_cases a1 : (c - 1) / 2 = i
        · rw [a1]
          exact nlt3_trans (fun k => h1 ((ord_neg _ _).2 k)) (k4 c c1 c2 a1)
        · exact hd.edge c c1 c2 a1

/-- What lies behind the first N stays. -/
theorem down_far : ∀ (f : Nat) (l : List T3) (N i k : Nat), N ≤ k → N ≤ l.length → i < N → at3 (downL f l N i).1 k = at3 l k
  | 0, l, N, i, k, h, hN, hi => rfl
  | f + 1, l, N, i, k, h, hN, hi => by
    rw [downL]
    by_cases h0 : N ≤ 2 * i + 1
    · rw [if_pos h0]
    · rw [if_neg h0]
      obtain ⟨k1, -⟩ := kid_is l N i h0
      by_cases h1 : ord (l.getD (kid l N i) zz) (l.getD i zz) < 0
      · rw [if_pos h1, down_far f _ N _ k h (by rw [swp_length]; omega) k1, at_swp _ _ _ _ (by omega) (by omega), if_neg (by omega), if_neg (by omega)]
      · rw [if_neg h1]

end Go.Proofs.Ytofdlbnlfeocoaa
