/- The n greatest, falling: plain Lean. -/
import Derived.Test.YthhgpoihkmokcaaDoorMost31
namespace Go.Proofs.YthhgpoihkmokcaaDoor
set_option linter.unusedVariables false

/-- Falling by their ranks. -/
def Fall (l : List Nat) : Prop := l.Pairwise (fun a b => key b ≤ key a)

theorem outL_laws : ∀ (m : Nat) (h : List Nat), h.length = m → Hp h m → (outL m h).Perm h ∧ Fall (outL m h)
  | 0, h, hl, hp => by
    have : h = [] := List.eq_nil_of_length_eq_zero hl
    subst this
    exact ⟨List.Perm.refl _, List.Pairwise.nil⟩
  | m + 1, h, hl, hp => by
    obtain ⟨p1, p2, p3, p4⟩ := pop_is h m hl hp
    have ht : ((popL h m).take m).length = m := by rw [List.length_take]; omega
    obtain ⟨a, b⟩ := outL_laws m ((popL h m).take m) ht (p2.take (by omega))
    have e : (popL h m).getD m zz = atF h 0 := p1
    unfold outL
    rw [e]
    refine ⟨(a.append_right _).trans p4, ?_⟩
    unfold Fall
    rw [List.pairwise_append]
    refine ⟨b, by simp, ?_⟩
    intro x hx y hy
    simp at hy
    subst hy
    have hm : x ∈ h := p4.mem_iff.1 (by simp [a.mem_iff.1 hx])
    obtain ⟨i, hi, rfl⟩ := List.getElem_of_mem hm
    have := hp.top i (by omega)
    rw [show atF h i = h[i] by simp [atF, hi]] at this
    unfold ltK at this
    omega

/-- The heap of the N greatest so far: what was left out is no greater. -/
structure Kept (N : Nat) (l h : List Nat) : Prop where
  heap : Hp h h.length
  ex : ∃ R : List Nat, (h ++ R).Perm l ∧ (∀ a ∈ h, ∀ b ∈ R, key b ≤ key a) ∧ (R = [] ∨ h.length = N)
  le : h.length ≤ N

theorem Kept.add {N : Nat} {l h : List Nat} (k : Kept N l h) (x : Nat) : Kept N (l ++ [x]) (addP N h x) := by
  obtain ⟨R, r1, r2, r3⟩ := k.ex
  have hu := up_perm (h.length + 1) (h ++ [x]) h.length (by simp)
  have hH := add_heap k.heap x
  have hl := upl_len h x
  unfold addP
  obtain ⟨m, hm⟩ : ∃ m, upL (h.length + 1) (h ++ [x]) h.length = m := ⟨_, rfl⟩
  rw [hm] at hu hH hl ⊢
  by_cases hN : N < h.length + 1
  · rw [if_pos hN]
    obtain ⟨p1, p2, p3, p4⟩ := pop_is m h.length hl hH
    have ht : ((popL m h.length).take h.length).length = h.length := by rw [List.length_take]; omega
    have top : ∀ y ∈ m, key (atF m 0) ≤ key y := by
      intro y hy
      obtain ⟨i, hi, rfl⟩ := List.getElem_of_mem hy
      have := hH.top i (by omega)
      rw [show atF m i = m[i] by simp [atF, hi]] at this
      unfold ltK at this
      omega
    obtain ⟨t0, ht0⟩ : ∃ t0, atF m 0 = t0 := ⟨_, rfl⟩
    rw [ht0] at top p4
    have p5 := p2.take (by omega : h.length ≤ (popL m h.length).length)
    generalize (popL m h.length).take h.length = T at *
    have kl := k.le
    have q := p4.trans hu
    refine ⟨by rw [ht]; exact p5, ⟨t0 :: R, ?_, ?_, .inr (by omega)⟩, by omega⟩
    · have e : T ++ t0 :: R = (T ++ [t0]) ++ R := by simp
      rw [e]
      refine (q.append_right R).trans ?_
      rw [List.append_assoc]
      refine ((List.perm_append_comm).append_left h).trans ?_
      rw [← List.append_assoc]
      exact r1.append_right [x]
    · intro a ha b hb
      have ham : a ∈ m := p4.mem_iff.1 (by simp [ha])
      rcases List.mem_cons.1 hb with rfl | hb
      · exact top a ham
      · by_cases h0 : t0 ∈ h
        · have := r2 t0 h0 b hb
          have := top a ham
          omega
        · have e : t0 = x := by
            have : t0 ∈ h ++ [x] := q.mem_iff.1 (by simp)
            rcases List.mem_append.1 this with h1 | h1
            · exact absurd h1 h0
            · simpa using h1
          subst e
          have q2 := (List.perm_append_right_iff [t0]).1 q
          exact r2 a (q2.mem_iff.1 ha) b hb
  · rw [if_neg hN]
    have hR : R = [] := by
      rcases r3 with h | h
      · exact h
      · omega
    subst hR
    refine ⟨by rw [hl]; exact hH, ⟨[], ?_, by simp, .inl rfl⟩, by omega⟩
    rw [List.append_nil] at r1 ⊢
    exact hu.trans (r1.append_right [x])

theorem kept_to (N : Nat) (l : List Nat) : ∀ i, i ≤ l.length → Kept N (l.take i) (heapTo N l i)
  | 0, _ => ⟨fun i h1 h2 => absurd h2 (by simp [heapTo]), ⟨[], by simp [heapTo], by simp, .inl rfl⟩, by simp [heapTo]⟩
  | i + 1, h => by
    have ih := (kept_to N l i (by omega)).add (l.getD i 0)
    rw [heapTo_succ (by omega)]
    have e : l.take (i + 1) = l.take i ++ [l.getD i 0] := by
      rw [List.take_add_one]
      simp [show i < l.length by omega]
    rw [e]
    exact ih

/-- The n greatest: they fall, and what is left out is no greater. -/
theorem most_laws (N : Nat) (l : List Nat) : Fall (mostF N l) ∧ (mostF N l).length = min N l.length ∧ ∃ R : List Nat, (mostF N l ++ R).Perm l ∧ (∀ a ∈ mostF N l, ∀ b ∈ R, key b ≤ key a) := by
  have k := kept_to N l l.length (Nat.le_refl _)
  rw [List.take_length] at k
  obtain ⟨R, r1, r2, r3⟩ := k.ex
  unfold mostF
  generalize heapTo N l l.length = h at *
  obtain ⟨a, b⟩ := outL_laws h.length h rfl k.heap
  refine ⟨b, ?_, R, (a.append_right R).trans r1, fun x hx y hy => r2 x (a.mem_iff.1 hx) y hy⟩
  have := r1.length_eq
  have kl := k.le
  rw [outL_length]
  rw [List.length_append] at this
  rcases r3 with h0 | h0
  · subst h0
    simp at this
    omega
  · omega

/-- The place of x in a falling row: what is less is behind it. -/
def cutK (o : List Nat) (x : Nat) : Nat → Nat
  | 0 => 0
  | k + 1 => if key (o.getD k 0) < key x then cutK o x k else k + 1
def insL (o : List Nat) (x : Nat) : List Nat := o.take (cutK o x o.length) ++ x :: o.drop (cutK o x o.length)
def refL (l : List Nat) (i : Nat) : List Nat := (l.take i).foldl insL []
theorem refL_succ {l : List Nat} {i : Nat} (hi : i < l.length) : refL l (i + 1) = insL (refL l i) (l.getD i 0) := by
  unfold refL
  rw [List.take_add_one, List.foldl_append]
  simp [hi]
theorem cutK_le (o : List Nat) (x : Nat) : ∀ k, cutK o x k ≤ k
  | 0 => Nat.le_refl _
  | k + 1 => by
    unfold cutK
    split
    · exact Nat.le_trans (cutK_le o x k) (Nat.le_succ _)
    · exact Nat.le_refl _
theorem cutK_is (o : List Nat) (x : Nat) : ∀ k, (∀ j, cutK o x k ≤ j → j < k → key (o.getD j 0) < key x) ∧ (0 < cutK o x k → key x ≤ key (o.getD (cutK o x k - 1) 0))
  | 0 => ⟨fun j h1 h2 => by omega, fun h => by simp [cutK] at h⟩
  | k + 1 => by
    obtain ⟨a, b⟩ := cutK_is o x k
    unfold cutK
    by_cases h : key (o.getD k 0) < key x
    · rw [if_pos h]
      refine ⟨fun j h1 h2 => ?_, b⟩
      by_cases e : j = k
      · subst e; exact h
      · exact a j h1 (by omega)
    · rw [if_neg h]
      exact ⟨fun j h1 h2 => by omega, fun _ => by simp only [Nat.add_sub_cancel]; omega⟩
theorem ins_perm (o : List Nat) (x : Nat) : (insL o x).Perm (o ++ [x]) := by
  unfold insL
  refine (List.perm_middle).trans ?_
  rw [List.take_append_drop]
  exact (List.perm_append_comm (l₁ := [x]) (l₂ := o))
theorem fall_at {o : List Nat} (h : Fall o) {i j : Nat} (hij : i < j) (hj : j < o.length) : key (o.getD j 0) ≤ key (o.getD i 0) := by
  have := List.pairwise_iff_getElem.1 h i j (by omega) hj hij
  simpa [hj, show i < o.length by omega] using this
theorem ins_fall {o : List Nat} (h : Fall o) (x : Nat) : Fall (insL o x) := by
  obtain ⟨a, b⟩ := cutK_is o x o.length
  have hl := cutK_le o x o.length
  unfold insL
  generalize cutK o x o.length = k at *
  have he : o = o.take k ++ o.drop k := (List.take_append_drop k o).symm
  unfold Fall at *
  have h2 := h
  rw [he, List.pairwise_append] at h2
  obtain ⟨h3, h4, h5⟩ := h2
  rw [List.pairwise_append]
  refine ⟨h3, List.Pairwise.cons ?_ h4, ?_⟩
  · intro y hy
    obtain ⟨j, hj, rfl⟩ := List.getElem_of_mem hy
    rw [List.length_drop] at hj
    have := a (k + j) (by omega) (by omega)
    rw [List.getElem_drop]
    simp [show k + j < o.length by omega] at this
    omega
  · intro y hy z hz
    obtain ⟨j, hj, rfl⟩ := List.getElem_of_mem hy
    rw [List.length_take] at hj
    have hx : key x ≤ key ((o.take k)[j]'(by rw [List.length_take]; omega)) := by
      have hb := b (by omega)
      rw [List.getElem_take]
      by_cases e : j = k - 1
      · subst e
        simpa [show k - 1 < o.length by omega] using hb
      · have := fall_at (o := o) h (i := j) (j := k - 1) (by omega) (by omega)
        simp [show k - 1 < o.length by omega, show j < o.length by omega] at this hb
        omega
    rcases List.mem_cons.1 hz with rfl | hz
    · exact hx
    · exact h5 _ (List.getElem_mem _) z hz
theorem refL_laws (l : List Nat) : ∀ i, i ≤ l.length → Fall (refL l i) ∧ (refL l i).Perm (l.take i)
  | 0, _ => ⟨List.Pairwise.nil, by simp [refL]⟩
  | i + 1, h => by
    obtain ⟨a, b⟩ := refL_laws l i (by omega)
    rw [refL_succ (by omega)]
    refine ⟨ins_fall a _, (ins_perm _ _).trans ?_⟩
    have e : l.take (i + 1) = l.take i ++ [l.getD i 0] := by
      rw [List.take_add_one]
      simp [show i < l.length by omega]
    rw [e]
    exact b.append_right _

/-- Two falling rows of the same floats have the same ranks. -/
theorem fall_uniq {a b : List Nat} (ha : Fall a) (hb : Fall b) (h : a.Perm b) : a.map key = b.map key := by
  refine List.Perm.eq_of_pairwise (le := fun x y : Int => y ≤ x) ?_ (List.pairwise_map.2 ha) (List.pairwise_map.2 hb) (h.map key)
  intro x y _ _ h1 h2
  omega

/-- The program's greatest are the document's, by their ranks. -/
theorem most_ref (N : Nat) (l : List Nat) : (mostF N l).map key = ((refL l l.length).take N).map key := by
  obtain ⟨h1, h2, R, h3, h4⟩ := most_laws N l
  obtain ⟨f1, f2⟩ := refL_laws R R.length (Nat.le_refl _)
  obtain ⟨s1, s2⟩ := refL_laws l l.length (Nat.le_refl _)
  rw [List.take_length] at f2 s2
  generalize refL R R.length = R' at *
  generalize refL l l.length = S at *
  have hX : Fall (mostF N l ++ R') := by
    unfold Fall
    rw [List.pairwise_append]
    exact ⟨h1, f1, fun a ha b hb => h4 a ha b (f2.mem_iff.1 hb)⟩
  have hk := fall_uniq hX s1 ((f2.append_left _).trans (h3.trans s2.symm))
  have hlen : (mostF N l).length + R'.length = l.length := by
    have := h3.length_eq
    rw [List.length_append] at this
    rw [f2.length_eq]; exact this
  rw [List.map_take, ← hk, ← List.map_take]
  congr 1
  by_cases hN : N ≤ l.length
  · rw [List.take_left' (by omega)]
  · have : R' = [] := List.eq_nil_of_length_eq_zero (by omega)
    rw [this, List.append_nil, List.take_of_length_le (by omega)]

end Go.Proofs.YthhgpoihkmokcaaDoor
