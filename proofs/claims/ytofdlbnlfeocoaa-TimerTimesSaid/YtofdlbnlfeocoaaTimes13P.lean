/- What is told of sleepers that were added one behind the other: plain Lean. -/
import Derived.Test.YtofdlbnlfeocoaaHeapDue13
namespace Go.Proofs.Ytofdlbnlfeocoaa
set_option linter.unusedVariables false

/-- The first n have come; those of m still sleep. -/
structure InM (W : Nat → Int) (n : Nat) (m : List T3) : Prop where
  heap : Hp m m.length
  mem : ∀ p ∈ m, ∃ i : Nat, i < n ∧ p = (W i, (i : Int), (i : Int) + 1)
  nd : m.Nodup

theorem InM.nil (W : Nat → Int) : InM W 0 [] := ⟨fun i h1 h2 => absurd h2 (Nat.not_lt_zero i), (fun p hp => by cases hp), List.nodup_nil⟩

theorem InM.add {W : Nat → Int} {n : Nat} {m : List T3} (h : InM W n m) : InM W (n + 1) (upL (m.length + 1) (m ++ [(W n, (n : Int), (n : Int) + 1)]) m.length) := by
  have hp := up_perm (m.length + 1) (m ++ [(W n, (n : Int), (n : Int) + 1)]) m.length (by simp)
  refine ⟨?_, ?_, ?_⟩
  · have := add_heap h.heap (W n, (n : Int), (n : Int) + 1)
    rw [hp.length_eq, List.length_append]
    exact this
  · intro p hm
    rcases List.mem_append.1 (hp.mem_iff.1 hm) with h1 | h1
    · obtain ⟨i, hi, e⟩ := h.mem p h1
      exact ⟨i, by omega, e⟩
    · simp at h1
      exact ⟨n, by omega, h1⟩
  · rw [hp.nodup_iff, List.nodup_append]
    refine ⟨h.nd, by simp, ?_⟩
    intro a ha b hb
    simp at hb
    subst hb
    obtain ⟨i, hi, e⟩ := h.mem a ha
    rw [e]
    intro e2
    simp at e2
    omega
theorem add_length (n : Nat) (m : List T3) (p : T3) (h : m.length = n) : (upL (n + 1) (m ++ [p]) n).length = n + 1 := by
  rw [(up_perm (n + 1) (m ++ [p]) n (by simp [h])).length_eq]; simp [h]

/-- The last one told ahead of the k-th. -/
def wasK (D : List T3) (c : Int) (k : Nat) : Int := if k = 0 then c else (at3 D (k - 1)).1
def lastK (D : List T3) (c : Int) (k : Nat) : Int := if k = 0 then c else (at3 D (k - 1)).2.1

/-- What a telling shows. -/
structure Told (W : Nat → Int) (n : Nat) (now lo was : Int) (D : List T3) : Prop where
  one : ∀ k, k < D.length → ∃ i : Nat, i < n ∧ (at3 D k).2.1 = i ∧ (at3 D k).1 = W i ∧ W i ≤ now ∧ lo < W i
  seq : ∀ k c1 c2, k < D.length → c1 = was → wasK D c1 k ≤ (at3 D k).1 ∧ ((at3 D k).1 = wasK D c1 k → lastK D c2 k < (at3 D k).2.1)

theorem InM.due {W : Nat → Int} {n : Nat} {m : List T3} (h : InM W n m) (now lo was : Int) (f : Nat) (hf : m.length < f) (h1 : ∀ p ∈ m, lo < p.1) (h2 : ∀ p ∈ m, was < p.1) :
    InM W n (dueT f now m).2 ∧ Told W n now lo was (dueT f now m).1 ∧ (dueT f now m).1.length + (dueT f now m).2.length = m.length ∧ (∀ p ∈ (dueT f now m).2, now < p.1) ∧ (∀ p ∈ (dueT f now m).2, wasK (dueT f now m).1 was (dueT f now m).1.length < p.1) := by
  obtain ⟨a, b, c, d, e⟩ := dueT_laws f now m h.heap hf
  generalize (dueT f now m).1 = D at *
  generalize (dueT f now m).2 = R at *
  have nd := a.nodup_iff.2 h.nd
  rw [List.nodup_append] at nd
  obtain ⟨n1, n2, n3⟩ := nd
  have inD : ∀ p ∈ D, p ∈ m := fun p hp => a.mem_iff.1 (by simp [hp])
  have inR : ∀ p ∈ R, p ∈ m := fun p hp => a.mem_iff.1 (by simp [hp])
  have atD : ∀ k (hk : k < D.length), at3 D k = D[k] := fun k hk => by simp [at3, hk]
  refine ⟨⟨b, fun p hp => h.mem p (inR p hp), n2⟩, ⟨?_, ?_⟩, ?_, d, ?_⟩
  · intro k hk
    have hm : D[k] ∈ D := List.getElem_mem hk
    obtain ⟨i, hi, ei⟩ := h.mem _ (inD _ hm)
    have k1 := c _ hm
    have k2 := h1 _ (inD _ hm)
    rw [atD k hk]
    rw [ei] at k1 k2 ⊢
    exact ⟨i, hi, rfl, rfl, k1, k2⟩
  · intro k c1 c2 hk hc
    subst hc
    have hm : D[k] ∈ D := List.getElem_mem hk
    rw [atD k hk]
    unfold wasK lastK
    by_cases h0 : k = 0
    · rw [if_pos h0, if_pos h0]
      have := h2 _ (inD _ hm)
      exact ⟨by omega, fun e => by omega⟩
    · rw [if_neg h0, if_neg h0, atD (k - 1) (by omega)]
      have hm' : D[k - 1] ∈ D := List.getElem_mem _
      have hp := List.pairwise_iff_getElem.1 e (k - 1) k (by omega) hk (by omega)
      have hne : D[k - 1] ≠ D[k] := fun e => by
        have := (List.getElem_inj n1).1 e
        omega
      obtain ⟨i, hi, ei⟩ := h.mem _ (inD _ hm)
      obtain ⟨j, hj, ej⟩ := h.mem _ (inD _ hm')
      rw [ei, ej] at hp hne ⊢
      unfold lt3 at hp
      dsimp only at hp ⊢
      have hij : i ≠ j := fun e => hne (by rw [e])
      exact ⟨by omega, fun e => by omega⟩
  · rw [← a.length_eq, List.length_append]
  · intro p hp
    have := d p hp
    unfold wasK
    by_cases h0 : D.length = 0
    · rw [if_pos h0]
      exact h2 p (inR p hp)
    · rw [if_neg h0, atD _ (by omega)]
      have hm : D[D.length - 1] ∈ D := List.getElem_mem _
      have := c _ hm
      omega

end Go.Proofs.Ytofdlbnlfeocoaa
