/- StatePlays: the walk. -/
import Derived.Test.YtbdnpjbookhebaaPlays12
namespace Go.Proofs.Ytbdnpjbookhebaa
open Go.RowKit
set_option linter.unusedVariables false

/-- The program's states L, and the law's own list M, in blocks apart. -/
structure Two (w wr : World) (v lv : Value) (L M : List Nat) : Prop where
  st : St wr w.heap.size v L
  row : wr.ownsRow (w.heap.size + 1) 3 1 lv M.length (ints M)
  apart : ∀ g, lv.ownBlock = some g → v.ownBlock ≠ some g
  below : Below w.heap.size w wr

theorem Two.ex {w wr w' : World} {v lv : Value} {L M : List Nat} (h : Two w wr v lv L M) (k : Ex wr w') : Two w w' v lv L M :=
  ⟨h.st.ex k, row_chg (F := fun _ => False) h.row (k.chg _) (fun _ _ h => h), h.apart, h.below.trans (Below.mono k h.below.size)⟩
theorem Two.nxt {w wr w' : World} {v lv : Value} {L L' M : List Nat} (h : Two w wr v lv L M) (k : Nxt wr w.heap.size v L' w') : ∃ v', Two w w' v' lv L' M := by
  have hb := h.below.trans (Nxt.below h.st k)
  obtain ⟨v', h1, h2, h3⟩ := k
  refine ⟨v', h1, row_chg h.row h2 ?_, ?_, hb⟩
  · intro g hg hf
    rcases hf with rfl | hf
    · have := h.row.lt _ hg; omega
    · exact h.apart g hg hf
  · intro g hg e
    rcases h3 g e with h4 | h4
    · exact h.apart g hg h4
    · have := h.row.lt _ hg; omega
theorem Two.put {w wr : World} {v : Value} {L M : List Nat} {g n cap : Nat} (h : Two w wr v (.slice (some ⟨g, 0, none⟩) n cap) L M) (hn : M.length = n) (j t : Nat) : Two w (wr.setCell ⟨g, j, none⟩ (.int .i64 (t : Nat))) v (.slice (some ⟨g, 0, none⟩) n cap) L (M.set j t) := by
  subst hn
  have hg := h.row.lt g rfl
  refine ⟨h.st.chg (Chg.cell (F := fun k => k = g) wr ⟨g, j, none⟩ _ rfl) ?_, ?_, h.apart, h.below.setCell (p := ⟨g, j, none⟩) (by simp; omega) _⟩
  · intro i hi e
    subst e
    rcases hi with e | hi
    · omega
    · exact h.apart i rfl hi
  · have e : ints (M.set j t) = (ints M).set j (.int .i64 (t : Nat)) := by simp [ints, List.map_set]
    rw [e, List.length_set]
    exact (h.row.stored j (.int .i64 (t : Nat))).1
theorem Two.app {w wr w' : World} {v lv : Value} {L M : List Nat} {x : Nat} {g n cap : Nat} {cs : Array Value} (h : Two w wr v lv L M) (hn : M.length = n)
    (hown : w'.ownsRow (w.heap.size + 1) 3 1 (.slice (some ⟨g, 0, none⟩) (n + 1) cap) (n + 1) (ints M ++ [.int .i64 (x : Nat)])) (hg : (wr.alloc (.cells cs 3)).grownBy w' lv.ownBlock) (hor : lv.ownBlock = some g ∨ wr.heap.size + 1 ≤ g) :
    Two w w' v (.slice (some ⟨g, 0, none⟩) (n + 1) cap) L (M ++ [x]) := by
  have h' := h.ex (Ex.made wr (.cells cs 3))
  refine ⟨h'.st.chg (Chg.grown (F := fun k => lv.ownBlock = some k) hg (fun i hi => hi)) ?_, ?_, ?_, ?_⟩
  · intro i hi hf
    rcases hi with rfl | hi
    · have := h.row.lt _ hf; omega
    · exact h.apart i hf hi
  · rw [← ints_app] at *
    have e : (M ++ [x]).length = n + 1 := by simp [hn]
    rw [e]; exact hown
  · intro k hk e
    simp only [Value.ownBlock, Option.some.injEq] at hk
    subst hk
    rcases hor with h1 | h1
    · exact h.apart g h1 e
    · have := h.st.row.lt _ e; omega
  · exact h'.below.grown hg (by have := h'.below.size; simp at this ⊢; omega) (fun k hk => by have := h.row.lt _ hk; omega)

/-- The law's list, as the walk reads it. -/
theorem Two.cells {w wr : World} {v lv : Value} {L M : List Nat} (h : Two w wr v lv L M) : RowOf wr lv M.length M := row_of h.row

end Go.Proofs.Ytbdnpjbookhebaa
