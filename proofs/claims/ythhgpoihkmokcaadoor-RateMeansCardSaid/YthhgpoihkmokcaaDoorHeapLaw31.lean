/- Heaps, in plain Lean. -/
import Derived.Test.YthhgpoihkmokcaaDoorPop31
namespace Go.Proofs.YthhgpoihkmokcaaDoor
set_option linter.unusedVariables false

def ltK (p q : Nat) : Prop := key p < key q
theorem ord_neg (p q : Nat) : ord p q < 0 ↔ ltK p q := by rw [ord_key]; rfl

theorem ltK_trans {p q r : Nat} (h : ltK p q) (k : ltK q r) : ltK p r := by unfold ltK at *; omega
theorem nltK_trans {p q r : Nat} (h : ¬ ltK q p) (k : ¬ ltK r q) : ¬ ltK r p := by unfold ltK at *; omega
theorem ltK_asymm {p q : Nat} (h : ltK p q) : ¬ ltK q p := by unfold ltK at *; omega

/-- The i-th. -/
def atF (l : List Nat) (i : Nat) : Nat := l.getD i zz
theorem at_swp (l : List Nat) (i j k : Nat) (hi : i < l.length) (hj : j < l.length) : atF (swp l i j) k = if k = j then atF l i else if k = i then atF l j else atF l k := by
  unfold atF swp
  by_cases h1 : k = j
  · subst h1; simp [hj]
  · by_cases h2 : k = i
    · subst h2; simp [h1, Ne.symm h1, hi]
    · simp [h1, h2, Ne.symm h1, Ne.symm h2]

/-- The first N are a heap. -/
def Hp (l : List Nat) (N : Nat) : Prop := ∀ i, 0 < i → i < N → ¬ ltK (atF l i) (atF l ((i - 1) / 2))

theorem Hp.top {l : List Nat} {N : Nat} (h : Hp l N) : ∀ i, i < N → ¬ ltK (atF l i) (atF l 0) := by
  intro i
  induction i using Nat.strongRecOn with
  | ind i ih =>
    intro hi
    by_cases h0 : i = 0
    · subst h0; unfold ltK; omega
    · exact nltK_trans (ih ((i - 1) / 2) (by omega) (by omega)) (h i (by omega) hi)

/-- A heap but for j, which may be too small. -/
structure UpI (l : List Nat) (N j : Nat) : Prop where
  edge : ∀ i, 0 < i → i < N → i ≠ j → ¬ ltK (atF l i) (atF l ((i - 1) / 2))
  kids : ∀ i, 0 < i → i < N → (i - 1) / 2 = j → 0 < j → ¬ ltK (atF l i) (atF l ((j - 1) / 2))

theorem up_heap : ∀ (f : Nat) (l : List Nat) (j : Nat), j < f → j < l.length → UpI l l.length j → Hp (upL f l j) l.length
  | 0, l, j, h, _, _ => by omega
  | f + 1, l, j, h, hj, hu => by
    unfold upL
    by_cases h0 : (j - 1) / 2 = j ∨ ¬ ord (l.getD j zz) (l.getD ((j - 1) / 2) zz) < 0
    · rw [if_pos h0]
      intro i h1 h2
      by_cases hij : i = j
      · subst hij
        rcases h0 with h0 | h0
        · omega
        · exact fun k => h0 ((ord_neg _ _).2 k)
      · exact hu.edge i h1 h2 hij
    · rw [if_neg h0]
      have h1 : (j - 1) / 2 ≠ j := fun e => h0 (.inl e)
      have h2 : ltK (atF l j) (atF l ((j - 1) / 2)) := (ord_neg _ _).1 (Classical.byContradiction fun e => h0 (.inr e))
      have hlt : (j - 1) / 2 < j := by omega
      have hk : (j - 1) / 2 < l.length := by omega
      have := up_heap f (swp l ((j - 1) / 2) j) ((j - 1) / 2) (by omega) (by rw [swp_length]; omega) ?_
      · rwa [swp_length] at this
      · rw [swp_length]
        constructor
        · intro i i1 i2 i3
          rw [at_swp _ _ _ _ hk hj, at_swp _ _ _ _ hk hj]
          by_cases a1 : i = j
          · subst a1
            rw [if_pos rfl, if_neg (by omega), if_pos rfl]
            exact ltK_asymm h2
          · rw [if_neg a1, if_neg i3]
            by_cases a2 : (i - 1) / 2 = j
            · rw [if_pos a2]
              exact hu.kids i i1 i2 a2 (by omega)
            · rw [if_neg a2]
              by_cases a3 : (i - 1) / 2 = (j - 1) / 2
              · rw [if_pos a3]
                have := hu.edge i i1 i2 a1
                rw [a3] at this
                exact nltK_trans (ltK_asymm h2) this
              · rw [if_neg a3]
                exact hu.edge i i1 i2 a1
        · intro i i1 i2 i3 i4
          have e2 := hu.edge ((j - 1) / 2) i4 (by omega) (by omega)
          rw [at_swp _ _ _ _ hk hj, at_swp _ _ _ _ hk hj, if_neg (show ((j - 1) / 2 - 1) / 2 ≠ j by omega), if_neg (show ((j - 1) / 2 - 1) / 2 ≠ (j - 1) / 2 by omega)]
          by_cases a1 : i = j
          · rw [if_pos a1]; exact e2
          · rw [if_neg a1, if_neg (by omega)]
            have := hu.edge i i1 i2 a1
            rw [i3] at this
            exact nltK_trans e2 this

/-- A heap but for i, which may be too great. -/
structure DownI (l : List Nat) (N i : Nat) : Prop where
  edge : ∀ c, 0 < c → c < N → (c - 1) / 2 ≠ i → ¬ ltK (atF l c) (atF l ((c - 1) / 2))
  kids : ∀ c, 0 < c → c < N → (c - 1) / 2 = i → 0 < i → ¬ ltK (atF l c) (atF l ((i - 1) / 2))

theorem kid_is (l : List Nat) (N i : Nat) (h : ¬ N ≤ 2 * i + 1) : kid l N i < N ∧ (kid l N i - 1) / 2 = i ∧ i < kid l N i ∧ ∀ c, 0 < c → c < N → (c - 1) / 2 = i → ¬ ltK (atF l c) (atF l (kid l N i)) := by
  unfold kid
  by_cases h1 : 2 * i + 2 < N ∧ ord (l.getD (2 * i + 2) zz) (l.getD (2 * i + 1) zz) < 0
  · rw [if_pos h1]
    refine ⟨h1.1, by omega, by omega, ?_⟩
    intro c c1 c2 c3
    have h2 : ltK (atF l (2 * i + 2)) (atF l (2 * i + 1)) := (ord_neg _ _).1 h1.2
    have hc : c = 2 * i + 1 ∨ c = 2 * i + 2 := by omega
    rcases hc with rfl | rfl
    · exact ltK_asymm h2
    · unfold ltK; omega
  · rw [if_neg h1]
    refine ⟨by omega, by omega, by omega, ?_⟩
    intro c c1 c2 c3
    have hc : c = 2 * i + 1 ∨ c = 2 * i + 2 := by omega
    rcases hc with rfl | rfl
    · unfold ltK; omega
    · exact fun k => h1 ⟨c2, (ord_neg _ _).2 k⟩

theorem down_heap : ∀ (f : Nat) (l : List Nat) (N i : Nat), N ≤ f + i → N ≤ l.length → i < l.length → DownI l N i → Hp (downL f l N i).1 N
  | 0, l, N, i, h, hN, hi, hd => fun c c1 c2 => hd.edge c c1 c2 (by omega)
  | f + 1, l, N, i, h, hN, hi, hd => by
    rw [downL]
    by_cases h0 : N ≤ 2 * i + 1
    · rw [if_pos h0]
      exact fun c c1 c2 => hd.edge c c1 c2 (by omega)
    · rw [if_neg h0]
      obtain ⟨k1, k2, k3, k4⟩ := kid_is l N i h0
      generalize kid l N i = J at *
      by_cases h1 : ord (l.getD J zz) (l.getD i zz) < 0
      · rw [if_pos h1]
        have h2 : ltK (atF l J) (atF l i) := (ord_neg _ _).1 h1
        refine down_heap f (swp l i J) N J (by omega) (by rw [swp_length]; omega) (by rw [swp_length]; omega) ?_
        constructor
        · intro c c1 c2 c3
          rw [at_swp _ _ _ _ hi (by omega), at_swp _ _ _ _ hi (by omega)]
          rw [if_neg c3]
          by_cases a1 : c = J
          · subst a1
            rw [if_pos rfl, if_pos k2]
            exact ltK_asymm h2
          · rw [if_neg a1]
            by_cases a2 : c = i
            · subst a2
              rw [if_pos rfl, if_neg (by omega)]
              exact hd.kids J (by omega) k1 k2 c1
            · rw [if_neg a2]
              by_cases a3 : (c - 1) / 2 = i
              · rw [if_pos a3]
                exact k4 c c1 c2 a3
              · rw [if_neg a3]
                exact hd.edge c c1 c2 a3
        · intro c c1 c2 c3 c4
          rw [at_swp _ _ _ _ hi (by omega), at_swp _ _ _ _ hi (by omega)]
          rw [if_neg (show c ≠ J by omega), if_neg (show c ≠ i by omega), if_neg (show (J - 1) / 2 ≠ J by omega), if_pos k2]
          have := hd.edge c c1 c2 (by omega)
          rwa [c3] at this
      · rw [if_neg h1]
        intro c c1 c2
        by_cases a1 : (c - 1) / 2 = i
        · rw [a1]
          exact nltK_trans (fun k => h1 ((ord_neg _ _).2 k)) (k4 c c1 c2 a1)
        · exact hd.edge c c1 c2 a1

/-- What lies behind the first N stays. -/
theorem down_far : ∀ (f : Nat) (l : List Nat) (N i k : Nat), N ≤ k → N ≤ l.length → i < N → atF (downL f l N i).1 k = atF l k
  | 0, l, N, i, k, h, hN, hi => rfl
  | f + 1, l, N, i, k, h, hN, hi => by
    rw [downL]
    by_cases h0 : N ≤ 2 * i + 1
    · rw [if_pos h0]
    · rw [if_neg h0]
      obtain ⟨k1, -⟩ := kid_is l N i h0
      by_cases h1 : ord (l.getD (kid l N i) zz) (l.getD i zz) < 0
      · rw [if_pos h1, down_far f _ N _ k h (by rw [swp_length]; omega) k1, at_swp _ _ _ _ (by omega) (by omega), if_neg (by omega), if_neg (by omega)]
      · rw [if_neg h1]

theorem swp_perm (l : List Nat) (i j : Nat) (hi : i < l.length) (hj : j < l.length) : (swp l i j).Perm l := by
  unfold swp
  rw [show l.getD j zz = l[j] by simp [hj], show l.getD i zz = l[i] by simp [hi]]
  exact List.set_set_perm hi hj

theorem up_perm : ∀ (f : Nat) (l : List Nat) (j : Nat), j < l.length → (upL f l j).Perm l
  | 0, l, j, h => List.Perm.refl _
  | f + 1, l, j, h => by
    unfold upL
    by_cases h0 : (j - 1) / 2 = j ∨ ¬ ord (l.getD j zz) (l.getD ((j - 1) / 2) zz) < 0
    · rw [if_pos h0]
    · rw [if_neg h0]
      exact (up_perm f _ _ (by rw [swp_length]; omega)).trans (swp_perm l _ _ (by omega) h)

theorem down_perm : ∀ (f : Nat) (l : List Nat) (N i : Nat), N ≤ l.length → i < l.length → (downL f l N i).1.Perm l
  | 0, l, N, i, h, hi => List.Perm.refl _
  | f + 1, l, N, i, h, hi => by
    rw [downL]
    by_cases h0 : N ≤ 2 * i + 1
    · rw [if_pos h0]
    · rw [if_neg h0]
      obtain ⟨k1, -⟩ := kid_is l N i h0
      by_cases h1 : ord (l.getD (kid l N i) zz) (l.getD i zz) < 0
      · rw [if_pos h1]
        exact (down_perm f _ N _ (by rw [swp_length]; omega) (by rw [swp_length]; omega)).trans (swp_perm l _ _ hi (by omega))
      · rw [if_neg h1]

theorem add_heap {l : List Nat} (h : Hp l l.length) (p : Nat) : Hp (upL (l.length + 1) (l ++ [p]) l.length) (l.length + 1) := by
  have := up_heap (l.length + 1) (l ++ [p]) l.length (by omega) (by simp) ?_
  · rwa [List.length_append] at this
  · rw [List.length_append]
    have e : ∀ i, i < l.length → atF (l ++ [p]) i = atF l i := by
      intro i hi
      unfold atF
      simp [List.getD, List.getElem?_append, hi]
    constructor
    · intro i i1 i2 i3
      simp at i2
      rw [e i (by omega), e _ (by omega)]
      exact h i i1 (by omega)
    · intro i i1 i2 i3 i4
      simp at i2
      omega

theorem pop_is (l : List Nat) (n : Nat) (hl : l.length = n + 1) (h : Hp l (n + 1)) :
    atF (popL l n) n = atF l 0 ∧ Hp (popL l n) n ∧ (popL l n).length = n + 1 ∧ ((popL l n).take n ++ [atF l 0]).Perm l := by
  have hs := swp_length l 0 n
  have hp : (popL l n).Perm l := (down_perm (n + 1) _ n 0 (by omega) (by omega)).trans (swp_perm l 0 n (by omega) (by omega))
  have hlen : (popL l n).length = n + 1 := by rw [hp.length_eq, hl]
  have htop : atF (popL l n) n = atF l 0 := by
    unfold popL
    by_cases h0 : n = 0
    · subst h0
      rw [down_end (by omega), at_swp _ _ _ _ (by omega) (by omega), if_pos rfl]
    · rw [down_far _ _ _ _ _ (Nat.le_refl _) (by omega) (by omega), at_swp _ _ _ _ (by omega) (by omega), if_pos rfl]
  refine ⟨htop, ?_, hlen, ?_⟩
  · refine down_heap (n + 1) _ n 0 (by omega) (by omega) (by omega) ⟨?_, fun c c1 c2 c3 c4 => by omega⟩
    intro c c1 c2 c3
    rw [at_swp _ _ _ _ (by omega) (by omega), at_swp _ _ _ _ (by omega) (by omega), if_neg (by omega), if_neg (by omega), if_neg (by omega), if_neg c3]
    exact h c c1 (by omega)
  · have e := hlast (popL l n) n hlen
    have : (popL l n).getD n zz = atF l 0 := htop
    rw [this] at e
    rw [← e]
    exact hp

theorem Hp.take {l : List Nat} {n : Nat} (h : Hp l n) (hn : n ≤ l.length) : Hp (l.take n) n := by
  intro i i1 i2
  have e : ∀ k, k < n → atF (l.take n) k = atF l k := by
    intro k hk
    unfold atF
    simp [List.getD, hk]
  rw [e i i2, e _ (by omega)]
  exact h i i1 i2

end Go.Proofs.YthhgpoihkmokcaaDoor
