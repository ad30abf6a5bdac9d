/- TimerOrder, plain. -/
import Derived.Test.YtofdlbnlfeocoaaTwiceP
namespace Go.Proofs.Ytofdlbnlfeocoaa
set_option linter.unusedVariables false

/-- Of the first i those that I names sleep. -/
structure Ord13 (W : Nat → Int) (i : Nat) (I : List Bool) (S : List T3) : Prop where
  mem : ∀ p ∈ S, ∃ g : Nat, g < i ∧ p = (W g, (g : Int), (g : Int) + 1) ∧ I.getD g false = true
  all : ∀ g : Nat, g < i → I.getD g false = true → (W g, (g : Int), (g : Int) + 1) ∈ S
  nd : (S.map (fun p => p.2.1)).Nodup

theorem Ord13.nil (W : Nat → Int) (I : List Bool) : Ord13 W 0 I [] := ⟨(fun p hp => by cases hp), (fun g hg => absurd hg (Nat.not_lt_zero g)), List.nodup_nil⟩

theorem getD_set (I : List Bool) (i g : Nat) (b : Bool) (hi : i < I.length) : (I.set i b).getD g false = if g = i then b else I.getD g false := by
  by_cases h : g = i
  · subst h; simp [hi]
  · simp [h, List.getD, List.getElem?_set_ne (Ne.symm h)]

theorem Ord13.add {W : Nat → Int} {i : Nat} {I : List Bool} {S : List T3} (h : Ord13 W i I S) (hi : i < I.length) : Ord13 W (i + 1) (I.set i true) (insT (W i, (i : Int), (i : Int) + 1) S) := by
  have hp := insT_perm (W i, (i : Int), (i : Int) + 1) S
  refine ⟨?_, ?_, ?_⟩
  · intro p hm
    rcases List.mem_append.1 (hp.mem_iff.1 hm) with hm | hm
    · obtain ⟨g, g1, g2, g3⟩ := h.mem p hm
      refine ⟨g, by omega, g2, ?_⟩
      rw [getD_set _ _ _ _ hi]
      split
      · rfl
      · exact g3
    · simp at hm
      exact ⟨i, by omega, hm, by rw [getD_set _ _ _ _ hi, if_pos rfl]⟩
  · intro g hg ht
    rw [getD_set _ _ _ _ hi] at ht
    rw [hp.mem_iff, List.mem_append]
    by_cases e : g = i
    · subst e; exact .inr (by simp)
    · rw [if_neg e] at ht
      exact .inl (h.all g (by omega) ht)
  · rw [(hp.map _).nodup_iff, List.map_append, List.nodup_append]
    refine ⟨h.nd, by simp, ?_⟩
    intro a ha b hb
    obtain ⟨q, hq, rfl⟩ := List.mem_map.1 ha
    obtain ⟨g, g1, rfl, -⟩ := h.mem q hq
    simp at hb
    subst hb
    simp
    omega

theorem Ord13.any {W : Nat → Int} {i : Nat} {I : List Bool} {S : List T3} (h : Ord13 W i I S) (k : Nat) (hk : k < i) : S.any (fun p => p.2.1 == (k : Int)) = I.getD k false := by
  by_cases e : I.getD k false = true
  · rw [e, List.any_eq_true]
    exact ⟨_, h.all k hk e, by simp⟩
  · rw [Bool.not_eq_true] at e
    rw [e, List.any_eq_false]
    intro p hp hpk
    obtain ⟨g, g1, rfl, g3⟩ := h.mem p hp
    have : (g : Int) = (k : Int) := by simpa using hpk
    have : g = k := by omega
    subst this
    rw [e] at g3
    cases g3

theorem erase_filter : ∀ (S : List T3) (g : Int), (S.map (fun p => p.2.1)).Nodup → delS g S = S.filter (fun p => p.2.1 != g)
  | [], g, _ => rfl
  | p :: S, g, h => by
    simp only [List.map_cons, List.nodup_cons] at h
    unfold delS
    by_cases e : (p.2.1 == g) = true
    · rw [List.eraseP_cons_of_pos (p := fun p : T3 => p.2.1 == g) e, List.filter_cons_of_neg (by simpa using e)]
      symm
      rw [List.filter_eq_self]
      intro q hq
      have e' : p.2.1 = g := by simpa using e
      simp only [bne_iff_ne, ne_eq]
      intro hq2
      exact h.1 (List.mem_map.2 ⟨q, hq, by rw [hq2, e']⟩)
    · rw [List.eraseP_cons_of_neg (p := fun p : T3 => p.2.1 == g) e, List.filter_cons_of_pos (by simpa using e)]
      congr 1
      exact erase_filter S g h.2

theorem Ord13.del {W : Nat → Int} {i : Nat} {I : List Bool} {S : List T3} (h : Ord13 W i I S) (k : Nat) (hk : k < I.length) : Ord13 W i (I.set k false) (delS (k : Int) S) ∧ (delS (k : Int) S).any (fun p => p.2.1 == (k : Int)) = false ∧ delS (k : Int) (delS (k : Int) S) = delS (k : Int) S := by
  have e := erase_filter S k h.nd
  have hno : ∀ p ∈ delS (k : Int) S, ¬ (p.2.1 == (k : Int)) = true := by
    intro p hp
    rw [e, List.mem_filter] at hp
    simpa using hp.2
  refine ⟨⟨?_, ?_, ?_⟩, ?_, List.eraseP_of_forall_not hno⟩
  · intro p hp
    have hp2 := hno p hp
    rw [e, List.mem_filter] at hp
    obtain ⟨g, g1, g2, g3⟩ := h.mem p hp.1
    refine ⟨g, g1, g2, ?_⟩
    rw [getD_set _ _ _ _ hk, if_neg]
    · exact g3
    · intro eg
      rw [g2, eg] at hp2
      simp at hp2
  · intro g hg ht
    rw [getD_set _ _ _ _ hk] at ht
    by_cases eg : g = k
    · rw [if_pos eg] at ht; cases ht
    · rw [if_neg eg] at ht
      rw [e, List.mem_filter]
      refine ⟨h.all g hg ht, ?_⟩
      simp
      omega
  · rw [e]
    exact h.nd.sublist ((List.filter_sublist).map _)
  · rw [List.any_eq_false]
    exact hno

/-- How many are named. -/
def cnt (I : List Bool) (n : Nat) : Nat := ((List.range n).filter (fun g => I.getD g false)).length
theorem cnt_succ (I : List Bool) (n : Nat) : cnt I (n + 1) = cnt I n + if I.getD n false = true then 1 else 0 := by
  unfold cnt
  rw [List.range_succ, List.filter_append, List.length_append]
  by_cases h : I.getD n false = true
  · rw [if_pos h, List.filter_cons_of_pos (p := fun g => I.getD g false) h]; rfl
  · rw [if_neg h, List.filter_cons_of_neg (p := fun g => I.getD g false) h]; rfl
theorem cnt_le (I : List Bool) (n : Nat) : cnt I n ≤ n := by
  unfold cnt
  have := List.length_filter_le (fun g => I.getD g false) (List.range n)
  simpa using this

theorem Ord13.count {W : Nat → Int} {n : Nat} {I : List Bool} {S : List T3} (h : Ord13 W n I S) : S.length = cnt I n := by
  have hp : (S.map (fun p => p.2.1.toNat)).Perm ((List.range n).filter (fun g => I.getD g false)) := by
    refine (List.perm_ext_iff_of_nodup ?_ ?_).2 ?_
    · have := h.nd
      have hm := h.mem
      clear h
      induction S with
      | nil => exact List.nodup_nil
      | cons p S ih =>
        simp only [List.map_cons, List.nodup_cons] at this ⊢
        refine ⟨?_, ih this.2 (fun q hq => hm q (by simp [hq]))⟩
        intro hq
        obtain ⟨q, hq, e⟩ := List.mem_map.1 hq
        obtain ⟨g, -, g2, -⟩ := hm q (by simp [hq])
        obtain ⟨g', -, g2', -⟩ := hm p (by simp)
        refine this.1 (List.mem_map.2 ⟨q, hq, ?_⟩)
        rw [g2, g2'] at e ⊢
        have e2 : g = g' := by simpa using e
        rw [e2]
    · exact List.nodup_range.filter _
    · intro g
      rw [List.mem_map, List.mem_filter, List.mem_range]
      constructor
      · rintro ⟨p, hp, rfl⟩
        obtain ⟨g, g1, g2, g3⟩ := h.mem p hp
        rw [g2]
        simpa using ⟨g1, by simpa using g3⟩
      · rintro ⟨h1, h2⟩
        exact ⟨_, h.all g h1 h2, by simp⟩
  have := hp.length_eq
  rw [List.length_map] at this
  exact this

/-- What stands at a place of All. -/
theorem Ord13.at {W : Nat → Int} {n : Nat} {I : List Bool} {S : List T3} (h : Ord13 W n I S) (c : Nat) (hc : c < S.length) : ∃ g : Nat, g < n ∧ at3 S c = (W g, (g : Int), (g : Int) + 1) ∧ I.getD g false = true := by
  obtain ⟨g, g1, g2, g3⟩ := h.mem S[c] (List.getElem_mem hc)
  exact ⟨g, g1, by rw [← g2]; simp [at3, hc], g3⟩

theorem Ord13.next {W : Nat → Int} {n : Nat} {I : List Bool} {S : List T3} (h : Ord13 W n I S) (hs : S.Pairwise (fun p q => ¬ lt3 q p)) (c : Nat) (hc : c + 1 < S.length) :
    (at3 S c).1 ≤ (at3 S (c + 1)).1 ∧ ((at3 S c).1 = (at3 S (c + 1)).1 → (at3 S c).2.1 < (at3 S (c + 1)).2.1) := by
  have hp := List.pairwise_iff_getElem.1 hs c (c + 1) (by omega) hc (by omega)
  have e1 : at3 S c = S[c] := by simp [at3, show c < S.length by omega]
  have e2 : at3 S (c + 1) = S[c + 1] := by simp [at3, hc]
  rw [← e1, ← e2] at hp
  obtain ⟨g, -, g2, -⟩ := h.at c (by omega)
  obtain ⟨g', -, g2', -⟩ := h.at (c + 1) hc
  have hne : (at3 S c).2.1 ≠ (at3 S (c + 1)).2.1 := by
    intro e
    have h1 := List.pairwise_iff_getElem.1 (show (S.map (fun p => p.2.1)).Pairwise (· ≠ ·) from h.nd) c (c + 1) (by simp; omega) (by simp; omega) (by omega)
    simp only [List.getElem_map] at h1
    rw [e1, e2] at e
    exact h1 e
  rw [g2, g2'] at hp hne ⊢
  unfold lt3 at hp
  dsimp only at hp hne ⊢
  omega

/-- Till far away all are due. -/
theorem due_far {S : List T3} (now : Int) (h : ∀ p ∈ S, p.1 ≤ now) : dueS now S = S ∧ leftS now S = [] := by
  refine ⟨List.filter_eq_self.2 (fun p hp => by simpa using h p hp), List.filter_eq_nil_iff.2 (fun p hp => by have := h p hp; simp; omega)⟩

end Go.Proofs.Ytofdlbnlfeocoaa
