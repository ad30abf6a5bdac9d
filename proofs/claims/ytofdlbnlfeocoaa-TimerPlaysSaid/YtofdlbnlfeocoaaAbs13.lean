/- Sleepers as a sorted list: plain Lean. -/
import Derived.Test.YtofdlbnlfeocoaaAll13
namespace Go.Proofs.Ytofdlbnlfeocoaa
set_option linter.unusedVariables false

/-- The heap m is the sorted list S; of k that were made. -/
structure Abs (m S : List T3) (k : Nat) : Prop where
  heap : Hp m m.length
  srt : Srt m S
  nd : (m.map (fun p => p.2.2)).Nodup
  bd : ∀ p ∈ m, 1 ≤ p.2.2 ∧ p.2.2 ≤ (k : Int)

theorem Abs.nil : Abs [] [] 0 := ⟨fun i h1 h2 => absurd h2 (Nat.not_lt_zero i), ⟨List.Perm.refl _, List.Pairwise.nil⟩, List.nodup_nil, fun p hp => by cases hp⟩
theorem Abs.len {m S : List T3} {k : Nat} (h : Abs m S k) : S.length = m.length := h.srt.perm.length_eq
theorem Abs.mem {m S : List T3} {k : Nat} (h : Abs m S k) {p : T3} : p ∈ S ↔ p ∈ m := h.srt.perm.mem_iff

theorem inj_of_nd {m : List T3} (nd : (m.map (fun p => p.2.2)).Nodup) : ∀ p ∈ m, ∀ q ∈ m, p.2.2 = q.2.2 → p = q := by
  induction m with
  | nil => intro p hp; cases hp
  | cons a m ih =>
    simp only [List.map_cons, List.nodup_cons] at nd
    obtain ⟨n1, n2⟩ := nd
    intro p hp q hq e
    rcases List.mem_cons.1 hp with rfl | hp' <;> rcases List.mem_cons.1 hq with rfl | hq'
    · rfl
    · exact absurd (List.mem_map.2 ⟨q, hq', e.symm⟩) n1
    · exact absurd (List.mem_map.2 (⟨p, hp', e⟩ : ∃ a, a ∈ m ∧ a.2.2 = q.2.2)) n1
    · exact ih n2 p hp' q hq' e

/-- Sorted lists of the same ones are one. -/
theorem srt_uniq {a b m : List T3} (nd : (m.map (fun p => p.2.2)).Nodup) (ha : Srt m a) (hb : Srt m b) : a = b := by
  refine List.Perm.eq_of_pairwise ?_ ha.sorted hb.sorted (ha.perm.trans hb.perm.symm)
  intro p q hp hq h1 h2
  refine inj_of_nd nd p (ha.perm.mem_iff.1 hp) q (hb.perm.mem_iff.1 hq) ?_
  unfold lt3 at h1 h2
  omega

/-- One put in behind all that are not later. -/
def insT (p : T3) : List T3 → List T3
  | [] => [p]
  | q :: l => if p.1 < q.1 then p :: q :: l else q :: insT p l
theorem insT_perm (p : T3) : ∀ l, (insT p l).Perm (l ++ [p])
  | [] => List.Perm.refl _
  | q :: l => by
    unfold insT
    by_cases h : p.1 < q.1
    · rw [if_pos h]
      exact (List.perm_append_comm (l₁ := [p]) (l₂ := q :: l))
    · rw [if_neg h]
      exact (insT_perm p l).cons q
theorem insT_sorted (p : T3) : ∀ l : List T3, l.Pairwise (fun p q => ¬ lt3 q p) → (∀ q ∈ l, q.2.2 < p.2.2) → (insT p l).Pairwise (fun p q => ¬ lt3 q p)
  | [], _, _ => by simp [insT]
  | q :: l, h, hs => by
    rw [List.pairwise_cons] at h
    obtain ⟨h1, h2⟩ := h
    unfold insT
    by_cases hp : p.1 < q.1
    · rw [if_pos hp, List.pairwise_cons]
      refine ⟨?_, List.pairwise_cons.2 ⟨h1, h2⟩⟩
      intro r hr
      rcases List.mem_cons.1 hr with rfl | hr
      · unfold lt3; omega
      · have := h1 r hr
        unfold lt3 at this ⊢
        omega
    · rw [if_neg hp, List.pairwise_cons]
      refine ⟨?_, insT_sorted p l h2 (fun r hr => hs r (by simp [hr]))⟩
      intro r hr
      rcases List.mem_append.1 ((insT_perm p l).mem_iff.1 hr) with hr | hr
      · exact h1 r hr
      · simp at hr
        subst hr
        have := hs q (by simp)
        unfold lt3
        omega

theorem Abs.add {m S : List T3} {k : Nat} (h : Abs m S k) (when g : Int) (n : Nat) (hn : m.length = n) :
    Abs (upL (n + 1) (m ++ [(when, g, (k : Int) + 1)]) n) (insT (when, g, (k : Int) + 1) S) (k + 1) := by
  subst hn
  have hp := up_perm (m.length + 1) (m ++ [(when, g, (k : Int) + 1)]) m.length (by simp)
  refine ⟨?_, ⟨?_, ?_⟩, ?_, ?_⟩
  · have := add_heap h.heap (when, g, (k : Int) + 1)
    rw [hp.length_eq, List.length_append]
    exact this
  · exact ((insT_perm _ S).trans (h.srt.perm.append_right _)).trans hp.symm
  · refine insT_sorted _ S h.srt.sorted ?_
    intro q hq
    have := h.bd q (h.mem.1 hq)
    dsimp only
    omega
  · rw [(hp.map _).nodup_iff, List.map_append, List.nodup_append]
    refine ⟨h.nd, by simp, ?_⟩
    intro a ha b hb
    obtain ⟨q, hq, rfl⟩ := List.mem_map.1 ha
    have := h.bd q hq
    simp at hb
    omega
  · intro q hq
    rcases List.mem_append.1 (hp.mem_iff.1 hq) with hq | hq
    · have := h.bd q hq
      omega
    · simp at hq
      subst hq
      dsimp only
      omega

theorem Abs.sub {m m' S S' : List T3} {k : Nat} (h : Abs m S k) (hh : Hp m' m'.length) (hs : Srt m' S') (x : List T3) (hx : (x ++ m').Perm m) : Abs m' S' k := by
  refine ⟨hh, hs, ?_, fun p hp => h.bd p (hx.mem_iff.1 (by simp [hp]))⟩
  have := (hx.map (fun p => p.2.2)).nodup_iff.2 h.nd
  rw [List.map_append, List.nodup_append] at this
  exact this.2.1

/-- Who is due, who is left. -/
def dueS (now : Int) (S : List T3) : List T3 := S.filter (fun p => decide (p.1 ≤ now))
def leftS (now : Int) (S : List T3) : List T3 := S.filter (fun p => decide (now < p.1))

theorem Abs.due {m S : List T3} {k : Nat} (h : Abs m S k) (now : Int) (f : Nat) (hf : m.length < f) :
    dueL f now m = ((dueS now S).map (fun p => p.2.1), (dueT f now m).2) ∧ Abs (dueT f now m).2 (leftS now S) k := by
  rw [dueT_is _ _ _ h.heap]
  obtain ⟨a, b, c, d, e⟩ := dueT_laws f now m h.heap hf
  generalize (dueT f now m).1 = D at *
  generalize (dueT f now m).2 = R at *
  have f1 : (D ++ R).filter (fun p => decide (p.1 ≤ now)) = D := by
    rw [List.filter_append, List.filter_eq_self.2 (fun p hp => by simpa using c p hp), List.filter_eq_nil_iff.2 (fun p hp => by simpa using d p hp), List.append_nil]
  have f2 : (D ++ R).filter (fun p => decide (now < p.1)) = R := by
    rw [List.filter_append, (List.filter_eq_nil_iff (l := D)).2 (fun p hp => by simpa using c p hp), List.filter_eq_self.2 (fun p hp => by simpa using d p hp), List.nil_append]
  have p1 : (dueS now S).Perm D := by
    have := (h.srt.perm.trans a.symm).filter (fun p => decide (p.1 ≤ now))
    rwa [f1] at this
  have p2 : (leftS now S).Perm R := by
    have := (h.srt.perm.trans a.symm).filter (fun p => decide (now < p.1))
    rwa [f2] at this
  have nd : ((D ++ R).map (fun p => p.2.2)).Nodup := (a.map _).nodup_iff.2 h.nd
  rw [List.map_append, List.nodup_append] at nd
  have eD : dueS now S = D := srt_uniq nd.1 ⟨p1, h.srt.sorted.filter _⟩ ⟨List.Perm.refl _, e⟩
  exact ⟨by rw [eD], h.sub b ⟨p2, h.srt.sorted.filter _⟩ D a⟩

/-- The first one of g taken out. -/
def delS (g : Int) (S : List T3) : List T3 := S.eraseP (fun p => p.2.1 == g)

theorem erase_at : ∀ (S : List T3) (g : Int) (j : Nat) (hj : j < S.length), (at3 S j).2.1 = g → (∀ c, c < j → (at3 S c).2.1 ≠ g) → (delS g S ++ [at3 S j]).Perm S
  | [], g, j, hj, _, _ => by simp at hj
  | p :: S, g, 0, hj, h1, h2 => by
    have : (p.2.1 == g) = true := by simpa [at3] using h1
    unfold delS
    rw [List.eraseP_cons_of_pos (p := fun p : T3 => p.2.1 == g) this]
    exact List.perm_append_comm (l₁ := S) (l₂ := [p])
  | p :: S, g, j + 1, hj, h1, h2 => by
    have h0 : ¬ (p.2.1 == g) = true := by simpa [at3] using h2 0 (by omega)
    unfold delS
    rw [List.eraseP_cons_of_neg (p := fun p : T3 => p.2.1 == g) h0]
    have ih := erase_at S g j (by simpa using hj) (by simpa [at3] using h1) (fun c hc => by simpa [at3] using h2 (c + 1) (by omega))
    rw [show at3 (p :: S) (j + 1) = at3 S j by simp [at3]]
    exact ih.cons p

theorem Abs.del {m S m' : List T3} {k : Nat} {g : Int} {r : Bool} (h : Abs m S k) (hd : DelIs m g r m') : r = S.any (fun p => p.2.1 == g) ∧ Abs m' (delS g S) k := by
  rcases hd with ⟨rfl, rfl, hno⟩ | ⟨rfl, s, j, i, hs, hj, h1, h2, hi, h3, rfl⟩
  · have hno' : ∀ p ∈ S, ¬ (p.2.1 == g) = true := fun p hp => by simpa using hno p (h.mem.1 hp)
    refine ⟨?_, ?_⟩
    · symm
      simpa using fun a b c hp => hno (a, b, c) (h.mem.1 hp)
    · rw [show delS g S = S from List.eraseP_of_forall_not hno']
      exact h
  · obtain rfl : s = S := srt_uniq h.nd hs h.srt
    obtain ⟨n, hn⟩ : ∃ n, m.length = n + 1 := ⟨m.length - 1, by omega⟩
    have hh := h.heap
    rw [hn] at hh
    obtain ⟨r1, r2, r3⟩ := remL_is m n i hn (by omega) hh
    rw [hn, Nat.add_sub_cancel]
    have e1 := erase_at s g j hj h1 h2
    refine ⟨?_, h.sub (by rw [r1]; exact r2) ⟨?_, h.srt.sorted.sublist List.eraseP_sublist⟩ [at3 m i] (List.perm_append_comm.trans r3)⟩
    · symm
      rw [List.any_eq_true]
      refine ⟨at3 s j, ?_, by simpa using h1⟩
      simp [at3, hj]
    · have e2 := (e1.trans h.srt.perm).trans r3.symm
      rw [h3] at e2
      exact (List.perm_append_right_iff _).1 e2

theorem Abs.all {m S s : List T3} {k : Nat} (h : Abs m S k) (hs : Srt m s) : s = S := srt_uniq h.nd hs h.srt

/-- The first is the top. -/
theorem Abs.top {m S : List T3} {k : Nat} (h : Abs m S k) (h0 : 0 < m.length) : (m.getD 0 zz) = at3 S 0 := by
  have hm : at3 m 0 ∈ m := by simp [at3, h0]
  have hS0 : 0 < S.length := by rw [h.len]; exact h0
  have hs : at3 S 0 ∈ S := by simp [at3, hS0]
  have t1 : ¬ lt3 (at3 S 0) (at3 m 0) := by
    obtain ⟨i, hi, e⟩ := List.getElem_of_mem (h.mem.1 hs)
    have := h.heap.top i hi
    rwa [show at3 m i = m[i] by simp [at3, hi], e] at this
  have t2 : ¬ lt3 (at3 m 0) (at3 S 0) := by
    obtain ⟨j, hj, e⟩ := List.getElem_of_mem (h.mem.2 hm)
    by_cases hj0 : j = 0
    · subst hj0
      have : at3 S 0 = S[0] := by simp [at3, hS0]
      rw [this, e]; unfold lt3; omega
    · have := List.pairwise_iff_getElem.1 h.srt.sorted 0 j hS0 hj (by omega)
      rw [e] at this
      rwa [show at3 S 0 = S[0] by simp [at3, hS0]]
  refine inj_of_nd h.nd _ hm _ (h.mem.1 hs) ?_
  unfold lt3 at t1 t2
  show (at3 m 0).2.2 = _
  omega

end Go.Proofs.Ytofdlbnlfeocoaa
