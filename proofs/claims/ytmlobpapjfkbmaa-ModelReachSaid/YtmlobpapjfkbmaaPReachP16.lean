/- ModelReach: plain. -/
import Derived.Test.YtmlobpapjfkbmaaPIns16
namespace Go.Proofs.Ytmlobpapjfkbmaa
set_option linter.unusedVariables false
set_option maxRecDepth 20000
set_option linter.unusedSimpArgs false

/-- What can be reached, from what is. -/
theorem rch_from {m : MS} (P : Nat → Prop) (hr : ∀ r ∈ rootsM m, r ≠ 0 → P r) (he : ∀ i, P i → ∀ j ∈ m.slots.getD i [], j ≠ 0 → P j) : ∀ i, Rch m i → P i := by
  intro i r
  induction r with
  | root h1 h2 => exact hr _ h1 h2
  | step _ h1 h2 ih => exact he _ ih _ h1 h2
theorem mem_roots {m : MS} {r : Nat} : r ∈ rootsM m ↔ r ∈ m.globals ∨ ∃ g, g < m.st.length ∧ m.st.getD g 0 ≠ 5 ∧ r ∈ (m.at g).stack := by
  unfold rootsM
  rw [List.mem_append]
  refine or_congr Iff.rfl ?_
  unfold stacksTo S12.aliveTo
  simp only [List.mem_flatten, List.mem_map, List.mem_filter, List.mem_range]
  constructor
  · rintro ⟨l, ⟨g, ⟨h1, h2⟩, rfl⟩, h3⟩
    exact ⟨g, h1, by simpa using h2, h3⟩
  · rintro ⟨g, h1, h2, h3⟩
    exact ⟨_, ⟨g, ⟨h1, by simpa using h2⟩, rfl⟩, h3⟩
theorem mem_top {x : GS} {a v r : Nat} (h : r ∈ (x.top a v).stack) : r = v ∨ r ∈ x.stack := (List.mem_or_eq_of_mem_set h).symm
theorem val_mem {x : GS} {a : Nat} (ha : a < x.stack.length) : x.val a ∈ x.stack := by
  unfold GS.val
  rw [List.getD_eq_getElem?_getD, List.getElem?_eq_getElem ha]
  exact List.getElem_mem ha

/-- Fewer or the same roots: a goroutine's stack is the same, or nobody's; states are turned but nobody lives again. -/
theorem roots_put {m : MS} {g : Nat} {y : GS} {st' : List Nat} (hl : st'.length = m.st.length) (ha : ∀ i, m.st.getD i 0 = 5 → st'.getD i 0 = 5) {r : Nat} (h : r ∈ m.globals ∨ ∃ i, i < st'.length ∧ st'.getD i 0 ≠ 5 ∧ r ∈ ((m.put g y).at i).stack) (hg : g < m.gs.length) (hst : m.st.getD g 0 ≠ 5) (hst2 : m.st.length = m.gs.length) : r ∈ rootsM m ∨ (st'.getD g 0 ≠ 5 ∧ r ∈ y.stack) := by
  rcases h with h | ⟨i, h1, h2, h3⟩
  · exact .inl (mem_roots.2 (.inl h))
  · rw [at_set] at h3
    split at h3
    · next q =>
      obtain ⟨rfl, -⟩ := q
      exact .inr ⟨h2, h3⟩
    · exact .inl (mem_roots.2 (.inr ⟨i, by omega, fun e => h2 (ha i e), h3⟩))

theorem x1_stack (m : MS) (g : Nat) : (x1 m g).stack = (m.at g).stack := rfl
theorem stack_root {m : MS} {g : Nat} (hg : g < m.st.length) (hst : m.st.getD g 0 ≠ 5) {r : Nat} (h : r ∈ (m.at g).stack) : r ∈ rootsM m := mem_roots.2 (.inr ⟨g, hg, hst, h⟩)

/-- An instruction: what was not reachable does not come back. -/
theorem rch_op {F : Fns} {gn n : Nat} {m : MS} (I : Inv F gn n m) {g : Nat} (hg : g < m.gs.length) (h1 : m.st.getD g 0 = 1) {op a b c : Nat} (f : Fit F gn op a b c) : ∀ i, Rch (opM m g op a b c) i → Rch m i ∨ (op = 1 ∧ i = m.slots.length) := by
  have hgs : g < m.st.length := by rw [I.st]; exact hg
  have hne : m.st.getD g 0 ≠ 5 := by omega
  obtain ⟨sl, sv⟩ := I.stk g hg
  have RT : ∀ r ∈ rootsM m, r ≠ 0 → Rch m r := fun r h h0 => .root h h0
  have RS : ∀ r ∈ (m.at g).stack, r ≠ 0 → Rch m r := fun r h h0 => .root (stack_root hgs hne h) h0
  have ED : ∀ i, Rch m i → ∀ j ∈ m.slots.getD i [], j ≠ 0 → Rch m j := fun i r j hj h0 => .step r hj h0
  -- a goroutine's turn, the states st'
  have PUT : ∀ (y : GS) (st' : List Nat) (m' : MS), m'.globals = m.globals → m'.slots = m.slots → m'.st = st' → m'.gs = (m.put g y).gs → st'.length = m.st.length → (∀ i, m.st.getD i 0 = 5 → st'.getD i 0 = 5) → (st'.getD g 0 ≠ 5 → ∀ r ∈ y.stack, r ≠ 0 → Rch m r) → ∀ i, Rch m' i → Rch m i ∨ (op = 1 ∧ i = m.slots.length) := by
    intro y st' m' e1 e2 e3 e4 hl ha hy i r
    refine .inl (rch_from (Rch m) (fun r hr h0 => ?_) (fun i ri j hj h0 => ED i ri j (by rw [e2] at hj; exact hj) h0) i r)
    have hr := mem_roots.1 hr
    rw [e1, e3] at hr
    have e5 : ∀ i, m'.at i = (m.put g y).at i := fun i => by unfold MS.at; rw [e4]
    simp only [e5] at hr
    rcases roots_put hl ha hr hg hne I.st with h | ⟨h2, h3⟩
    · exact RT r h h0
    · exact hy h2 r h3 h0
  have id5 : ∀ i, m.st.getD i 0 = 5 → m.st.getD i 0 = 5 := fun _ h => h
  have KEEP : ∀ i, Rch (m.put g (x1 m g)) i → Rch m i ∨ (op = 1 ∧ i = m.slots.length) := PUT (x1 m g) m.st _ rfl rfl rfl rfl rfl id5 (fun _ => RS)
  have TOP : ∀ v, (v ≠ 0 → Rch m v) → ∀ a i, Rch (m.put g ((x1 m g).top a v)) i → Rch m i ∨ (op = 1 ∧ i = m.slots.length) := fun v hv a => PUT _ m.st _ rfl rfl rfl rfl rfl id5 (fun _ r hr h0 => by
    rcases mem_top hr with rfl | hr
    · exact hv h0
    · exact RS r hr h0)
  have VAL : ∀ a, a < 16 → (m.at g).val a ≠ 0 → Rch m ((m.at g).val a) := fun a ha h0 => RS _ (val_mem (by rw [sl]; exact ha)) h0
  have DEAD : ∀ i, Rch (deadM m g) i → Rch m i ∨ (op = 1 ∧ i = m.slots.length) := PUT (x1 m g) (m.st.set g 5) (deadM m g) rfl rfl rfl rfl (by simp) (fun i hi => by
    rw [getD_set _ _ _ _ hgs]; split
    · rfl
    · exact hi) (fun _ => RS)
  have SET : ∀ s, ∀ i, m.st.getD i 0 = 5 → (m.st.set g s).getD i 0 = 5 := fun s i hi => by
    rw [getD_set _ _ _ _ hgs, if_neg (fun e => by rw [e] at hi; exact hne hi)]; exact hi
  obtain ⟨ho, f1, f2, f3, f4, f5, f6, f7, f8, f9, f10, f11, f12⟩ := f
  rcases op_cases ho with rfl | rfl | rfl | rfl | rfl | rfl | rfl | rfl | rfl | rfl | rfl | rfl | rfl | rfl | rfl | rfl | rfl | rfl
  · exact DEAD
  · intro i r
    have hsl : ∀ i, (m.slots ++ [List.replicate (b + 1) 0]).getD i [] = if i = m.slots.length then List.replicate (b + 1) 0 else m.slots.getD i [] := fun i => by
      rw [List.getD_eq_getElem?_getD, List.getD_eq_getElem?_getD]
      rcases Nat.lt_trichotomy i m.slots.length with hi | rfl | hi
      · rw [List.getElem?_append_left hi, if_neg (by omega)]
      · simp
      · rw [if_neg (by omega), List.getElem?_eq_none (by simp; omega), List.getElem?_eq_none (by omega)]
    refine rch_from (fun i => Rch m i ∨ (1 = 1 ∧ i = m.slots.length)) (fun r hr h0 => ?_) (fun i ri j hj h0 => ?_) i r
    · have hr := mem_roots.1 hr
      have hr : r ∈ m.globals ∨ ∃ i, i < m.st.length ∧ m.st.getD i 0 ≠ 5 ∧ r ∈ ((m.put g ((x1 m g).top a m.slots.length)).at i).stack := hr
      rcases roots_put (st' := m.st) rfl id5 hr hg hne I.st with h | ⟨-, h3⟩
      · exact .inl (RT r h h0)
      · rcases mem_top h3 with rfl | h
        · exact .inr ⟨rfl, rfl⟩
        · exact .inl (RS r h h0)
    · have hj : j ∈ (m.slots ++ [List.replicate (b + 1) 0]).getD i [] := hj
      rw [hsl] at hj
      split at hj
      · exact absurd (List.mem_replicate.1 hj).2 h0
      · next q =>
        rcases ri with ri | ⟨-, ri⟩
        · exact .inl (ED i ri j hj h0)
        · exact absurd ri q
  · show ∀ i, Rch (if (x1 m g).val b = 0 ∨ (m.slots.getD ((x1 m g).val b) []).length ≤ c then deadM m g else m.put g ((x1 m g).top a ((m.slots.getD ((x1 m g).val b) []).getD c 0))) i → _
    split
    · exact DEAD
    · next q =>
      refine TOP _ (fun h0 => ?_) a
      have hq : ¬ ((m.at g).val b = 0 ∨ (m.slots.getD ((m.at g).val b) []).length ≤ c) := q
      have hlt : c < (m.slots.getD ((m.at g).val b) []).length := by omega
      refine ED _ (VAL b (f2 (by omega)) (fun e => hq (.inl e))) _ ?_ h0
      show (m.slots.getD ((m.at g).val b) []).getD c 0 ∈ _
      generalize m.slots.getD ((m.at g).val b) [] = L at hlt ⊢
      rw [List.getD_eq_getElem?_getD, List.getElem?_eq_getElem hlt]
      exact List.getElem_mem hlt
  · show ∀ i, Rch (if (x1 m g).val a = 0 ∨ (m.slots.getD ((x1 m g).val a) []).length ≤ b then deadM m g else { m.put g (x1 m g) with slots := m.slots.set ((x1 m g).val a) ((m.slots.getD ((x1 m g).val a) []).set b ((x1 m g).val c)) }) i → _
    split
    · exact DEAD
    · next q =>
      intro i r
      refine .inl (rch_from (Rch m) (fun r hr h0 => ?_) (fun i ri j hj h0 => ?_) i r)
      · have hr := mem_roots.1 hr
        have hr : r ∈ m.globals ∨ ∃ i, i < m.st.length ∧ m.st.getD i 0 ≠ 5 ∧ r ∈ ((m.put g (x1 m g)).at i).stack := hr
        rcases roots_put (st' := m.st) rfl id5 hr hg hne I.st with h | ⟨-, h3⟩
        · exact RT r h h0
        · exact RS r h3 h0
      · have hj : j ∈ (m.slots.set ((m.at g).val a) ((m.slots.getD ((m.at g).val a) []).set b ((m.at g).val c))).getD i [] := hj
        rw [getD_setL] at hj
        split at hj
        · next e =>
          obtain ⟨e, -⟩ := e
          rcases List.mem_or_eq_of_mem_set hj with h | h
          · exact ED i ri j (by rw [e]; exact h) h0
          · rw [h]; exact VAL c (f3 rfl) (by rw [← h]; exact h0)
        · exact ED i ri j hj h0
  · exact TOP _ (VAL b (f2 (by omega))) a
  · exact TOP 0 (fun h => absurd rfl h) a
  · refine TOP _ (fun h0 => ?_) a
    refine RT _ (mem_roots.2 (.inl ?_)) h0
    have hb : b < m.globals.length := by rw [I.gl]; exact f5 rfl
    rw [List.getD_eq_getElem?_getD, List.getElem?_eq_getElem hb]
    exact List.getElem_mem hb
  · intro i r
    refine .inl (rch_from (m := opM m g 7 a b c) (Rch m) (fun r hr h0 => ?_) ED i r)
    have hr := mem_roots.1 hr
    have hr : r ∈ m.globals.set a ((m.at g).val b) ∨ ∃ i, i < m.st.length ∧ m.st.getD i 0 ≠ 5 ∧ r ∈ ((m.put g (x1 m g)).at i).stack := hr
    rcases hr with hr | hr
    · rcases List.mem_or_eq_of_mem_set hr with h | h
      · exact RT r (mem_roots.2 (.inl h)) h0
      · rw [h]; exact VAL b (f2 (by omega)) (by rw [← h]; exact h0)
    · rcases roots_put (st' := m.st) rfl id5 (.inr hr) hg hne I.st with h | ⟨-, h3⟩
      · exact RT r h h0
      · exact RS r h3 h0
  · show ∀ i, Rch (if m.gs.length < 1024 then spawnM (m.put g (x1 m g)) a ((x1 m g).val b) else deadM m g) i → _
    split
    · intro i r
      have ge : (m.put g (x1 m g)).gs.length = m.gs.length := by simp [MS.put]
      refine .inl (rch_from (m := spawnM (m.put g (x1 m g)) a ((x1 m g).val b)) (Rch m) (fun r hr h0 => ?_) ED i r)
      have hr := mem_roots.1 hr
      have hr : r ∈ m.globals ∨ ∃ i, i < (m.st ++ [1]).length ∧ (m.st ++ [1]).getD i 0 ≠ 5 ∧ r ∈ ((spawnM (m.put g (x1 m g)) a ((x1 m g).val b)).at i).stack := hr
      rcases hr with hr | ⟨i, h2, h3, h4⟩
      · exact RT r (mem_roots.2 (.inl hr)) h0
      · by_cases hi : i < m.gs.length
        · have e : (spawnM (m.put g (x1 m g)) a ((x1 m g).val b)).at i = (m.put g (x1 m g)).at i := by
            unfold MS.at spawnM
            show ((m.put g (x1 m g)).gs ++ [_]).getD i gs0 = _
            rw [List.getD_eq_getElem?_getD, List.getD_eq_getElem?_getD, List.getElem?_append_left (by rw [ge]; exact hi)]
          rw [e] at h4
          have h3' : m.st.getD i 0 ≠ 5 := by
            rw [List.getD_eq_getElem?_getD, List.getElem?_append_left (by rw [I.st]; exact hi), ← List.getD_eq_getElem?_getD] at h3; exact h3
          rcases roots_put (st' := m.st) rfl id5 (.inr ⟨i, by rw [I.st]; exact hi, h3', h4⟩) hg hne I.st with h | ⟨-, h3⟩
          · exact RT r h h0
          · exact RS r h3 h0
        · have hi2 : i = m.gs.length := by rw [List.length_append, I.st] at h2; simp at h2; omega
          have e : (spawnM (m.put g (x1 m g)) a ((x1 m g).val b)).at i = newG a ((m.at g).val b) := by
            unfold MS.at spawnM
            show ((m.put g (x1 m g)).gs ++ [_]).getD i gs0 = _
            rw [hi2, ← ge]; simp; rfl
          rw [e] at h4
          rcases List.mem_cons.1 h4 with h | h
          · rw [h]; exact VAL b (f2 (by omega)) (by rw [← h]; exact h0)
          · exact absurd (List.mem_replicate.1 h).2 h0
    · exact DEAD
  · exact KEEP
  · exact PUT (x1 m g) (m.st.set g 3) (opM m g 10 a b c) rfl rfl rfl rfl (by simp) (SET 3) (fun _ => RS)
  · exact PUT (x1 m g) (m.st.set g 3) (opM m g 11 a b c) rfl rfl rfl rfl (by simp) (SET 3) (fun _ => RS)
  · show ∀ i, Rch (match m.wait.getD a [] with | [] => m.put g (x1 m g) | w :: l => { m.put g (x1 m g) with wait := m.wait.set a l, st := m.st.set w 1 }) i → _
    cases hl : m.wait.getD a [] with
    | nil => exact KEEP
    | cons w l =>
      obtain ⟨k1, k2, -⟩ := I.s.wake (by rw [I.wl]; exact f9 (by omega)) hl
      exact PUT (x1 m g) (m.st.set w 1) { m.put g (x1 m g) with wait := m.wait.set a l, st := m.st.set w 1 } rfl rfl rfl rfl (by simp) (fun i hi => by
        rw [getD_set _ _ _ _ k1, if_neg (fun e => by rw [e, k2] at hi; omega)]; exact hi) (fun _ => RS)
  · exact KEEP
  · exact PUT { x1 m g with pc := a } m.st (opM m g 14 a b c) rfl rfl rfl rfl rfl id5 (fun _ => RS)
  · show ∀ i, Rch (if (x1 m g).val a = (x1 m g).val b then m.put g { x1 m g with pc := c } else m.put g (x1 m g)) i → _
    split
    · exact PUT { x1 m g with pc := c } m.st (m.put g { x1 m g with pc := c }) rfl rfl rfl rfl rfl id5 (fun _ => RS)
    · exact KEEP
  · exact PUT { x1 m g with count := 256 * a + b } m.st (opM m g 16 a b c) rfl rfl rfl rfl rfl id5 (fun _ => RS)
  · show ∀ i, Rch (if 0 < (x1 m g).count then m.put g { x1 m g with count := (x1 m g).count - 1, pc := a } else m.put g (x1 m g)) i → _
    split
    · exact PUT { x1 m g with count := (x1 m g).count - 1, pc := a } m.st (m.put g { x1 m g with count := (x1 m g).count - 1, pc := a }) rfl rfl rfl rfl rfl id5 (fun _ => RS)
    · exact KEEP

theorem rch_step {F : Fns} {gn n : Nat} {m : MS} (I : Inv F gn n m) (hm : C15.mayI gn F = 0) {g : Nat} (hg : g < m.gs.length) (h1 : m.st.getD g 0 = 1) : ∀ i, Rch (stepM F m g) i → Rch m i ∨ i = m.slots.length := by
  obtain ⟨op, a, b, c, hi, f, -⟩ := inst_fit hm (I.fn g hg)
  intro i r
  unfold stepM at r
  rw [hi] at r
  simp only [Int.toNat_natCast] at r
  rcases rch_op I hg h1 f i r with h | ⟨-, h⟩
  · exact .inl h
  · exact .inr h
/-- What is new can be reached as it comes. -/
theorem rch_new {F : Fns} {gn n : Nat} {m : MS} (I : Inv F gn n m) (hm : C15.mayI gn F = 0) {g : Nat} (hg : g < m.gs.length) (h1 : m.st.getD g 0 = 1) (ho : (tells F m g).op = 1) : (tells F m g).v = (m.slots.length : Int) ∧ Rch (stepM F m g) m.slots.length ∧ (stepM F m g).slots.length = m.slots.length + 1 := by
  obtain ⟨op, a, b, c, hi, f, -⟩ := inst_fit hm (I.fn g hg)
  have ho2 : op = 1 := by
    have : (tells F m g).op = (op : Int) := by unfold tells; rw [hi]
    omega
  subst ho2
  obtain ⟨sl, -⟩ := I.stk g hg
  have es : stepM F m g = opM m g 1 a b c := by unfold stepM; rw [hi]; rfl
  have ev : (tells F m g).v = (m.slots.length : Int) := by unfold tells; rw [hi]; rfl
  refine ⟨ev, ?_, by rw [es]; show (m.slots ++ [_]).length = _; simp⟩
  rw [es]
  refine .root (mem_roots.2 (.inr ⟨g, by show g < m.st.length; rw [I.st]; exact hg, by show m.st.getD g 0 ≠ 5; omega, ?_⟩)) (by have := I.s0; omega)
  show m.slots.length ∈ ((m.put g ((x1 m g).top a m.slots.length)).at g).stack
  rw [at_set, if_pos ⟨rfl, hg⟩]
  have ha : a < (x1 m g).stack.length := by
    show a < (m.at g).stack.length
    rw [sl]; exact f.p1 (by omega)
  show m.slots.length ∈ (x1 m g).stack.set a m.slots.length
  exact List.mem_iff_getElem.2 ⟨a, by simpa using ha, by simp⟩
theorem rch_tick {F : Fns} {gn n : Nat} {m : MS} (I : Inv F gn n m) (k : Nat) : ∀ i, Rch (tickM m k) i → Rch m i := by
  obtain ⟨s1, s2, s3, s4⟩ := I.s.tick ((m.clock + k : Nat) : Int)
  refine rch_from (Rch m) (fun r hr h0 => .root (mem_roots.2 ?_) h0) (fun i ri j hj h0 => .step ri hj h0)
  rcases mem_roots.1 hr with h | ⟨g, h1, h2, h3⟩
  · exact .inl h
  · refine .inr ⟨g, ?_, fun e => h2 ?_, h3⟩
    · have h1 : g < (wakeL m.st (wokeM m k)).length := h1
      unfold wokeM at h1
      rw [s2] at h1; exact h1
    · show (wakeL m.st (wokeM m k)).getD g 0 = 5
      unfold wokeM
      rw [s3 g, if_neg (fun hm => by have := (s4 g hm).2; omega)]
      exact e
theorem mem_rchL {m : MS} {i : Nat} : i ∈ rchL m ↔ i < m.slots.length ∧ Rch m i := by
  classical
  unfold rchL
  rw [List.mem_filter, List.mem_range]
  simp

end Go.Proofs.Ytmlobpapjfkbmaa
