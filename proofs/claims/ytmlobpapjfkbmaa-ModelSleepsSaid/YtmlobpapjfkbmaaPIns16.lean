/- Rows of instructions that a law makes. -/
import Derived.Test.YtmlobpapjfkbmaaK13
import Derived.Test.YtmlobpapjfkbmaaPRInts16
namespace Go.Proofs.Ytmlobpapjfkbmaa
open Go.RowKit
set_option linter.unusedVariables false
set_option maxRecDepth 20000
set_option linter.unusedSimpArgs false

theorem cells4_append (l M : List C15.I4) : C15.cells4 (l ++ M) = C15.cells4 l ++ C15.cells4 M := by
  induction l with
  | nil => rfl
  | cons x l ih => simp [C15.cells4, ih]
theorem cells4_len (l : List C15.I4) : (C15.cells4 l).length = l.length * 4 := by
  induction l with
  | nil => rfl
  | cons x l ih => simp [C15.cells4, ih]; omega
theorem cells4_one (l : List C15.I4) : ∀ u ∈ C15.cells4 l, u.oneCell' = true := by
  induction l with
  | nil => intro u hu; cases hu
  | cons x l ih =>
    intro u hu
    simp only [C15.cells4, List.mem_cons] at hu
    rcases hu with rfl | rfl | rfl | rfl | hu
    · rfl
    · rfl
    · rfl
    · rfl
    · exact ih u hu
/-- A row of instructions of one's own. -/
def RowJ (w : World) (B : Nat) (v : Value) (l : List C15.I4) : Prop := w.ownsRow B 40 4 v l.length (C15.cells4 l)
theorem RowJ.chg {w w' : World} {B : Nat} {v : Value} {l : List C15.I4} {P : Nat → Prop} (h : RowJ w B v l) (c : Chg P w w') (hP : ∀ b, v.ownBlock = some b → ¬ P b) : RowJ w' B v l := row_chg h c hP
theorem RowJ.nil (w : World) (B : Nat) : RowJ w B (.slice none 0 0) [] := World.ownsRow_nil _ _ _ _
theorem RowJ.at {w : World} {B : Nat} {v : Value} {l : List C15.I4} (h : RowJ w B v l) : l = [] ∨ ∃ g cap, v = .slice (some ⟨g, 0, none⟩) l.length cap ∧ B ≤ g ∧ g < w.heap.size ∧ l.length ≤ cap := by
  rcases row_shape h with ⟨rfl, h2, h3⟩ | ⟨g, cap, rfl, h2, h3, h4, -⟩
  · left
    exact List.eq_nil_of_length_eq_zero (by simpa using h2)
  · exact .inr ⟨g, cap, rfl, h2, h3, h4⟩
theorem RowJ.rd {w : World} {B : Nat} {v : Value} {l : List C15.I4} (h : RowJ w B v l) : C15.RdI w v l := by
  rcases row_shape h with ⟨rfl, h2, h3⟩ | ⟨g, cap, rfl, h2, h3, h4, -⟩
  · exact .inl ⟨⟨_, _, rfl⟩, List.eq_nil_of_length_eq_zero (by simpa using h2)⟩
  · refine .inr ⟨g, 0, cap, rfl, h3, h4, fun j u hj => ?_⟩
    have := h.cells rfl j u hj
    rw [Addr.add_lit] at this
    exact this
theorem info_inst : (Try.prog.info? 40).map (fun i => (i.zero, i.size, i.bytes)) = some (some (.agg #[.int .i64 0, .int .i64 0, .int .i64 0, .int .i64 0]), 4, 32) := by kernel_rfl
theorem wpList_append_insts (w : World) {ops : Array Oper} {rest : List Oper} {o : Oper} {a : Act} {Q : Exit → Act → World → Prop} (hgd : o.guard = none) (s x : Operand)
    (ho : o.op = .call { callee := .builtin .append, args := #[s, x], argTypes := #[42, 42] }) {B : Nat} {v : Value} {l : List C15.I4} (hs : a.eval s = v) (h : RowJ w B v l) (hB : B ≤ w.heap.size)
    {b m c : Nat} {cs : Array Value} {M : List C15.I4} (hu : a.eval x = .slice (some ⟨b, 0, none⟩) m c) (hx : Box w b cs 40) (hcs : cs = (C15.cells4 M).toArray) (hm : M.length = m) (h0 : 0 < m) (hb : l.length + m ≤ 100000) {L : List C15.I4} (hL : l ++ M = L) {N : Nat} (hN : L.length = N)
    (k : ∀ g cap w', RowJ w' B (.slice (some ⟨g, 0, none⟩) N cap) L → w.grownBy w' v.ownBlock → (v.ownBlock = some g ∨ w.heap.size ≤ g) → B ≤ g → g < w'.heap.size → wpList Try.prog ops Q rest (a.put o.dst (.slice (some ⟨g, 0, none⟩) N cap)) w') :
    wpList Try.prog ops Q (o :: rest) a w := by
  subst hcs hm hL hN
  obtain ⟨i0, hi, hz0, hz1, hz2⟩ := info_parts info_inst
  refine wpList_append_mine w hgd s x 42 ho B 40 i0 (.agg #[.int .i64 0, .int .i64 0, .int .i64 0, .int .i64 0]) 4 32 Try.underlying42 hi hz0 hz1 hz2 rfl (by decide) v l.length (C15.cells4 l) hs h ⟨b, 0, none⟩ M.length c (C15.cells4 M) hu (cells4_len M) (fun j u hj => ?_) (cells4_one M) (by unfold maxLen; omega) (by omega) hB h0 ?_
  · rw [Addr.add_lit, Nat.zero_add, hx.cell j, List.getElem?_toArray]; exact hj
  · intro g cap w' h1 h2 h3 h4 h5 h6 h7
    have e : (l ++ M).length = l.length + M.length := List.length_append
    have := k g cap w' (by unfold RowJ; rw [e, cells4_append]; exact h1) h2 h3 h4 h5
    rw [e] at this
    exact this
theorem RowJ.ex {w w' : World} {B : Nat} {v : Value} {l : List C15.I4} (h : RowJ w B v l) (x : Ex w w') : RowJ w' B v l := h.chg (x.chg (fun _ => False)) (fun _ _ h => h)
theorem ex_grownJ {w w' : World} {B : Nat} {v : Value} {l : List C15.I4} (h : RowJ w B v l) {W0 : World} (hB : Below B W0 w) (hs : B ≤ w.heap.size) (hg : w.grownBy w' v.ownBlock) : Below B W0 w' :=
  hB.grown hg hs fun k hk => (h.lt k hk).1

theorem Mt.go {B : Nat} {K : Nat → Prop} {w0 w w' : World} (h : Mt B K w w') (x : Ex w0 w) (hB : w0.heap.size ≤ B) : Ex w0 w' :=
  ((x.chg (fun i => w0.heap.size ≤ i)).trans (h.weak (fun i _ hi => Nat.le_trans hB hi.1)) (fun _ _ h => h)).below (Nat.le_refl _) (fun i hi => hi)
theorem utmod (a m : Int) (hm : 0 < m) : 0 ≤ (IntKind.u64.wrap a).tmod m ∧ (IntKind.u64.wrap a).tmod m < m :=
  ⟨Int.tmod_nonneg m (show 0 ≤ IntKind.u64.wrap a by simp [IntKind.wrap, IntKind.bits, IntKind.signed]; omega), Int.tmod_lt_of_pos _ hm⟩
theorem rowI_nat {w : World} {B : Nat} {v : Value} {l : List Nat} (h : w.ownsRow B 3 1 v l.length (S12.ints l)) {L : List Int} (hL : L = l.map (fun n : Nat => (n : Int))) : T13.RowI w v L := by
  subst hL
  refine T13.rowI_of (B := B) ?_
  have e : T13.intsZ (l.map (fun n : Nat => (n : Int))) = S12.ints l := by simp [T13.intsZ, S12.ints]
  rw [e, List.length_map]; exact h
theorem rowI_box {w : World} {b c : Nat} {cs : Array Value} {L : List Int} (h : Box w b cs 3) (hcs : cs = (T13.intsZ L).toArray) {n : Nat} (hn : L.length = n) : T13.RowI w (.slice (some ⟨b, 0, none⟩) n c) L := by
  subst hcs hn
  refine ⟨some ⟨b, 0, none⟩, c, rfl, fun j hj => ⟨b, 0, rfl, h.lt, ?_⟩⟩
  rw [Nat.zero_add, h.cell j]
  simp [T13.intsZ, hj]

end Go.Proofs.Ytmlobpapjfkbmaa
