/- Two models of one program, side by side. -/
import Derived.Test.YtmlobpapjfkbmaaPIns16
import Derived.Test.YtmlobpapjfkbmaaPGreat16
import Derived.Test.YtmlobpapjfkbmaaPRefM16
namespace Go.Proofs.Ytmlobpapjfkbmaa
open Go.RowKit
set_option linter.unusedVariables false
set_option maxRecDepth 20000
set_option linter.unusedSimpArgs false

/-- Behind n instructions of the first goroutine. -/
def stA (F : Fns) (gn : Nat) : Nat → MS
  | 0 => m0 gn
  | n + 1 => stepM F (stA F gn n) 0
/-- What was told. -/
def cmsA (F : Fns) (gn n : Nat) : List Cm := (List.range n).map (fun i => tells F (stA F gn i) 0)
theorem cmsA_snoc (F : Fns) (gn n : Nat) : cmsA F gn n ++ [tells F (stA F gn n) 0] = cmsA F gn (n + 1) := by simp [cmsA, List.range_succ]
theorem cmsA_len (F : Fns) (gn n : Nat) : (cmsA F gn n).length = n := by simp [cmsA]
theorem cmsA_at (F : Fns) (gn n i : Nat) (h : i < n) : (cmsA F gn n)[i]? = some (tells F (stA F gn i) 0) := by simp [cmsA, h]

def cmL (c : Cm) : List Value := [.int .i64 (c.g : Nat), .int .i64 (c.f : Nat), .int .i64 (c.pc : Nat), .int .i64 c.op, .int .i64 c.v, .bool c.bad]
def cellsC : List Cm → List Value
  | [] => []
  | c :: l => cmL c ++ cellsC l
theorem cellsC_append (l M : List Cm) : cellsC (l ++ M) = cellsC l ++ cellsC M := by
  induction l with
  | nil => rfl
  | cons x l ih => simp [cellsC, ih]
theorem cellsC_len (l : List Cm) : (cellsC l).length = l.length * 6 := by
  induction l with
  | nil => rfl
  | cons x l ih => simp [cellsC, cmL, ih]; omega
theorem cellsC_one (l : List Cm) : ∀ u ∈ cellsC l, u.oneCell' = true := by
  induction l with
  | nil => intro u hu; cases hu
  | cons x l ih =>
    intro u hu
    rcases List.mem_append.1 hu with h | h
    · simp only [cmL, List.mem_cons, List.mem_nil_iff, or_false] at h
      rcases h with rfl | rfl | rfl | rfl | rfl | rfl <;> rfl
    · exact ih u h
theorem cellsC_at : ∀ (l : List Cm) (i : Nat) (c : Cm), l[i]? = some c → ∀ j, j < 6 → (cellsC l)[i * 6 + j]? = (cmL c)[j]?
  | [], i, c, h, j, hj => by simp at h
  | x :: l, 0, c, h, j, hj => by
    have : x = c := by simpa using h
    subst this
    show (cmL x ++ cellsC l)[0 * 6 + j]? = _
    rw [Nat.zero_mul, Nat.zero_add, List.getElem?_append_left (by simpa [cmL] using hj)]
  | x :: l, i + 1, c, h, j, hj => by
    show (cmL x ++ cellsC l)[(i + 1) * 6 + j]? = _
    have hl : (cmL x).length = 6 := rfl
    rw [List.getElem?_append_right (by omega), hl, show (i + 1) * 6 + j - 6 = i * 6 + j by omega]
    exact cellsC_at l i c (by simpa using h) j hj
/-- A row of commits of one's own. -/
def RowC (w : World) (B : Nat) (v : Value) (l : List Cm) : Prop := w.ownsRow B 34 6 v l.length (cellsC l)
theorem RowC.nil (w : World) (B : Nat) : RowC w B (.slice none 0 0) [] := World.ownsRow_nil _ _ _ _
theorem RowC.ex {w w' : World} {B : Nat} {v : Value} {l : List Cm} (h : RowC w B v l) (x : Ex w w') : RowC w' B v l := row_chg (F := fun _ => False) h (x.chg _) (fun _ _ h => h)
theorem RowC.cell {w : World} {B g n cap : Nat} {l : List Cm} (h : RowC w B (.slice (some ⟨g, 0, none⟩) n cap) l) {i : Nat} {c : Cm} (hx : l[i]? = some c) {j : Nat} (hj : j < 6) {u : Value} (hu : (cmL c)[j]? = some u) : w.cell? ⟨g, i * 6 + j, none⟩ = some u := by
  have := cellsC_at l i c hx j hj
  rw [hu] at this
  have h2 := World.ownsRow.cells h rfl (i * 6 + j) _ this
  rw [Addr.add_lit] at h2
  simpa using h2
theorem info_cm : (Try.prog.info? 34).map (fun i => (i.zero, i.size, i.bytes)) = some (some (.agg #[.int .i64 0, .int .i64 0, .int .i64 0, .int .i64 0, .int .i64 0, .bool false]), 6, 48) := by kernel_rfl
theorem wpList_append_cm (w : World) {ops : Array Oper} {rest : List Oper} {o : Oper} {a : Act} {Q : Exit → Act → World → Prop} (hgd : o.guard = none) (s x : Operand)
    (ho : o.op = .call { callee := .builtin .append, args := #[s, x], argTypes := #[32, 32] }) {B : Nat} {v : Value} {l : List Cm} (hs : a.eval s = v) (h : RowC w B v l) (hB : B ≤ w.heap.size)
    {b k : Nat} {cs : Array Value} {c : Cm} (hu : a.eval x = .slice (some ⟨b, 0, none⟩) 1 k) (hx : Box w b cs 34) (hcs : cs = (cmL c).toArray) (hb : l.length ≤ 100000) {L : List Cm} (hL : l ++ [c] = L) {N : Nat} (hN : L.length = N)
    (K : ∀ g cap w', RowC w' B (.slice (some ⟨g, 0, none⟩) N cap) L → w.grownBy w' v.ownBlock → (v.ownBlock = some g ∨ w.heap.size ≤ g) → B ≤ g → g < w'.heap.size → wpList Try.prog ops Q rest (a.put o.dst (.slice (some ⟨g, 0, none⟩) N cap)) w') :
    wpList Try.prog ops Q (o :: rest) a w := by
  subst hcs hL hN
  obtain ⟨i0, hi, hz0, hz1, hz2⟩ := info_parts info_cm
  refine wpList_append_mine w hgd s x 32 ho B 34 i0 (.agg #[.int .i64 0, .int .i64 0, .int .i64 0, .int .i64 0, .int .i64 0, .bool false]) 6 48 Try.underlying32 hi hz0 hz1 hz2 rfl (by decide) v l.length (cellsC l) hs h ⟨b, 0, none⟩ 1 k (cmL c) hu rfl (fun j u hj => ?_) (fun u hu => cellsC_one [c] u (by simpa [cellsC] using hu)) (by unfold maxLen; omega) (by omega) hB (by omega) ?_
  · rw [Addr.add_lit, Nat.zero_add, hx.cell j, List.getElem?_toArray]; exact hj
  · intro g cap w' h1 h2 h3 h4 h5 h6 h7
    have e : (l ++ [c]).length = l.length + 1 := by simp
    have e2 : cellsC (l ++ [c]) = cellsC l ++ cmL c := by rw [cellsC_append]; simp [cellsC]
    have := K g cap w' (by unfold RowC; rw [e, e2]; exact h1) h2 h3 h4 h5
    rw [e] at this
    exact this

section
variable {B : Nat} {K : Nat → Prop} {w w' : World} {mb : Nat} {F : Fns} {gn n : Nat} {m : MS}
theorem Mo.wide (h : Mo B K w mb F gn n m) (x : Chg K w w') (K' : Nat → Prop) (hK : ∀ i, K' i → K i ∨ (w.heap.size ≤ i ∧ i < w'.heap.size)) : Mo B K' w' mb F gn n m := by
  obtain ⟨⟨A, t, h1, h2, h3, h4, h5⟩, k1, k2, k3, k4, k5, k6⟩ := h
  refine ⟨⟨A, t, h1.ex x (fun i hi => .inr ⟨h5 i hi, Nat.le_trans h3 (k5 i hi)⟩), h2.le x.size, h3, h4, fun i hi => ?_⟩, k1, k2, Nat.le_trans k3 x.size, fun i hi => ?_, fun i hi => ?_, k6⟩
  · rcases hK i hi with h | h
    · exact h5 i h
    · exact h2 i h.1
  · rcases hK i hi with h | h
    · exact Nat.lt_of_lt_of_le (k4 i h) x.size
    · exact h.2
  · rcases hK i hi with h | h
    · exact k5 i h
    · exact Nat.le_trans k3 h.1
theorem new_mo2 {pb : Nat} (h : NewM pb w mb gn F w') {B : Nat} (hp : pb ≤ B) (hB : B ≤ w.heap.size) (hm : C15.mayI gn F = 0) (hi : Inv F gn 0 (m0 gn)) : Mo B (fun i => B ≤ i ∧ i < w.heap.size) w' mb F gn 0 (m0 gn) ∧ Ex w w' := by
  obtain ⟨A, t, h1, h2, h3, h4, h5⟩ := h
  exact ⟨⟨⟨A, t, h1, h2, by omega, fun i hi => by rw [h4 i (by omega)], fun i hi => by rw [h4 i hi.2]⟩, hi, hm, Nat.le_trans hB h5.size, fun i hi => Nat.lt_of_lt_of_le hi.2 h5.size, fun i hi => hi.1, Nat.zero_le _⟩, h5⟩
end

/-- Two models and one's own blocks O: all apart. -/
structure Two (B : Nat) (O : Nat → Prop) (w : World) (a b : Nat) (F : Fns) (gn na : Nat) (ma : MS) (nb : Nat) (mb : MS) : Prop where
  all : ∃ Ka Kb : Nat → Prop, Mo B Ka w a F gn na ma ∧ Mo B Kb w b F gn nb mb ∧ (∀ i, B ≤ i → i < w.heap.size → Ka i ∨ Kb i) ∧ (∀ i, O i → Ka i ∧ Kb i)
section
variable {B : Nat} {O : Nat → Prop} {w w' : World} {a b : Nat} {F : Fns} {gn na nb : Nat} {ma mb : MS}
theorem Two.wide (h : Two B O w a b F gn na ma nb mb) (x : Chg O w w') (O' : Nat → Prop) (hO : ∀ i, O' i → O i ∨ (w.heap.size ≤ i ∧ i < w'.heap.size)) : Two B O' w' a b F gn na ma nb mb := by
  obtain ⟨Ka, Kb, h1, h2, h3, h4⟩ := h.all
  refine ⟨fun i => Ka i ∨ (w.heap.size ≤ i ∧ i < w'.heap.size), fun i => Kb i ∨ (w.heap.size ≤ i ∧ i < w'.heap.size), h1.wide (x.weak fun i _ hi => (h4 i hi).1) _ (fun i hi => hi), h2.wide (x.weak fun i _ hi => (h4 i hi).2) _ (fun i hi => hi), fun i hb hi => ?_, fun i hi => ?_⟩
  · by_cases e : i < w.heap.size
    · rcases h3 i hb e with h | h
      · exact .inl (.inl h)
      · exact .inr (.inl h)
    · exact .inl (.inr ⟨Nat.not_lt.1 e, hi⟩)
  · rcases hO i hi with h | h
    · exact ⟨.inl (h4 i h).1, .inl (h4 i h).2⟩
    · exact ⟨.inr h, .inr h⟩
theorem Two.ex (h : Two B O w a b F gn na ma nb mb) (x : Ex w w') : Two B O w' a b F gn na ma nb mb := h.wide (x.chg O) O (fun i hi => .inl hi)
theorem Two.swap (h : Two B O w a b F gn na ma nb mb) : Two B O w b a F gn nb mb na ma := by
  obtain ⟨Ka, Kb, h1, h2, h3, h4⟩ := h.all
  exact ⟨Kb, Ka, h2, h1, fun i hb hi => (h3 i hb hi).symm, fun i hi => (h4 i hi).symm⟩
/-- The first one's Do. -/
theorem two_do (h : Two B O w a b F gn na ma nb mb) (hn : na ≤ 90000) (hs : ma.sleep.length < 900) {g : Nat} (hg : g < ma.gs.length) (h1 : ma.st.getD g 0 = 1) :
    Calls Try.prog 16 #[.pointer (some ⟨a, 0, none⟩), .int .i64 (g : Nat)] w fun e w' => e = .returned (.tuple #[cmV (tells F ma g), .int .i64 0]) ∧ Two B O w' a b F gn (na + 1) (stepM F ma g) nb mb ∧ Chg (fun i => B ≤ i ∧ ¬ O i) w w' := by
  obtain ⟨Ka, Kb, k1, k2, k3, k4⟩ := h.all
  refine (mo_do k1 hn hs hg h1).mono ?_
  rintro e w' ⟨rfl, q1, q2⟩
  have q3 : Chg Kb w w' := q2.weak fun i hi h => (k3 i h.1 hi).resolve_left h.2
  refine ⟨rfl, ⟨Ka, fun i => Kb i ∨ (w.heap.size ≤ i ∧ i < w'.heap.size), q1, k2.wide q3 _ (fun i hi => hi), fun i hb hi => ?_, fun i hi => ⟨(k4 i hi).1, .inl (k4 i hi).2⟩⟩, q2.weak fun i _ hi => ⟨hi.1, fun ho => hi.2 (k4 i ho).1⟩⟩
  by_cases e : i < w.heap.size
  · rcases k3 i hb e with h | h
    · exact .inl h
    · exact .inr (.inl h)
  · exact .inr (.inr ⟨Nat.not_lt.1 e, hi⟩)
theorem two_cant (h : Two B O w a b F gn na ma nb mb) {g : Nat} (hg : g < ma.gs.length) (h1 : ma.st.getD g 0 ≠ 1) :
    Calls Try.prog 16 #[.pointer (some ⟨a, 0, none⟩), .int .i64 (g : Nat)] w fun e w' => e = .returned (.tuple #[noCm, .int .i64 5]) ∧ Ex w w' := by
  obtain ⟨Ka, Kb, k1, -⟩ := h.all
  exact mo_cant k1 hg h1
theorem Two.inv (h : Two B O w a b F gn na ma nb mb) : Inv F gn na ma := by
  obtain ⟨Ka, Kb, k1, -⟩ := h.all
  exact k1.inv
end
/-- Two new models. -/
theorem new_two {w w1 w2 w0 : World} {a b gn : Nat} {F : Fns} (ha : NewM w0.heap.size w a gn F w1) (hb : NewM w0.heap.size w1 b gn F w2) (h0 : w0.heap.size ≤ w.heap.size) (hm : C15.mayI gn F = 0) : Two w0.heap.size (fun _ => False) w2 a b F gn 0 (m0 gn) 0 (m0 gn) := by
  have hi := inv_m0 (gn := gn) (C15.may_zero hm).n1
  obtain ⟨k1, x1⟩ := new_mo2 ha (Nat.le_refl _) h0 hm hi
  obtain ⟨k2, x2⟩ := new_mo2 hb (Nat.le_refl _) (Nat.le_trans h0 x1.size) hm hi
  refine ⟨fun i => (w0.heap.size ≤ i ∧ i < w.heap.size) ∨ (w1.heap.size ≤ i ∧ i < w2.heap.size), _, k1.own x2 _ (fun i hi => hi), k2, fun i hb hi => ?_, fun i hi => hi.elim⟩
  by_cases e : i < w1.heap.size
  · exact .inr ⟨hb, e⟩
  · exact .inl (.inr ⟨Nat.not_lt.1 e, hi⟩)

end Go.Proofs.Ytmlobpapjfkbmaa
