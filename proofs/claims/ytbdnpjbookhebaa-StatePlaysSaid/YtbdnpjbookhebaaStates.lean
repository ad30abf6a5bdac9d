/- Package state: goroutines' states: contracts. -/
import Derived.Test.YtbdnpjbookhebaaChg
import Derived.Test.YtbdnpjbookhebaaMay12
namespace Go.Proofs.Ytbdnpjbookhebaa
open Go.RowKit
set_option linter.unusedVariables false

def cnt (l : List Nat) (k : Nat) : Value := .int .i64 ((l.count k : Nat) : Int)
def ints (l : List Nat) : List Value := l.map fun n : Nat => Value.int .i64 (n : Int)

/-- Block b holds the states l, whose slice is v. -/
structure St (w : World) (b : Nat) (v : Value) (l : List Nat) : Prop where
  box : Box w b #[v, cnt l 0, cnt l 1, cnt l 2, cnt l 3, cnt l 4, cnt l 5] 43
  row : w.ownsRow (b + 1) 3 1 v l.length (ints l)
  ok : ∀ s ∈ l, 1 ≤ s ∧ s ≤ 5
  len : l.length ≤ 1024

/-- The blocks of it. -/
def Of (b : Nat) (v : Value) (k : Nat) : Prop := k = b ∨ v.ownBlock = some k

theorem St.ex {w w' : World} {b : Nat} {v : Value} {l : List Nat} (h : St w b v l) (k : Ex w w') : St w' b v l :=
  ⟨h.box.ex k, row_chg (F := fun _ => False) h.row (k.chg _) (fun _ _ h => h), h.ok, h.len⟩
theorem St.chg {w w' : World} {b : Nat} {v : Value} {l : List Nat} {F : Nat → Prop} (h : St w b v l) (k : Chg F w w') (hF : ∀ i, Of b v i → ¬ F i) : St w' b v l :=
  ⟨h.box.chg k (hF b (.inl rfl)), row_chg h.row k (fun g hg => hF g (.inr hg)), h.ok, h.len⟩

theorem St.cellk {w : World} {b : Nat} {v : Value} {l : List Nat} (h : St w b v l) (k : Nat) (hk : k ≤ 5) : w.cell? ⟨b, 1 + k, none⟩ = some (.int .i64 ((l.count k : Nat) : Int)) := by
  rw [h.box.cell (1 + k)]
  have hk : k = 0 ∨ k = 1 ∨ k = 2 ∨ k = 3 ∨ k = 4 ∨ k = 5 := by omega
  rcases hk with rfl | rfl | rfl | rfl | rfl | rfl <;> rfl

/-- The slice and its elements. -/
theorem St.slice {w : World} {b : Nat} {v : Value} {l : List Nat} (h : St w b v l) : ∃ a cap, v = .slice a l.length cap ∧ l.length ≤ cap ∧ cap ≤ maxLen ∧
    ∀ j, j < l.length → ∃ g, a = some ⟨g, 0, none⟩ ∧ b < g ∧ g < w.heap.size ∧ w.cell? ⟨g, j, none⟩ = some (.int .i64 (l.getD j 0 : Nat)) ∧ w.frozen? ⟨g, j, none⟩ = false := by
  rcases row_shape h.row with ⟨h1, h2, h3⟩ | ⟨g, cap, rfl, h2, h3, h4, h5⟩
  · exact ⟨none, 0, by rw [h1, h2], by omega, by unfold maxLen; omega, fun j hj => by omega⟩
  · refine ⟨some ⟨g, 0, none⟩, cap, rfl, h4, h5, fun j hj => ⟨g, rfl, by omega, h3, ?_, ?_⟩⟩
    · rw [h.row.cellAt j (by omega)]
      simp [ints, hj]
    · exact h.row.frozenAt j

set_option maxHeartbeats 800000 in
theorem len_any {w : World} {b : Nat} {v : Value} {l : List Nat} (h : St w b v l) :
    Calls Try.prog 12 #[.pointer (some ⟨b, 0, none⟩)] w fun e w' => e = .returned (.int .i64 (l.length : Nat)) ∧ w = w' := by
  obtain ⟨a, cap, rfl, h1, h2, -⟩ := h.slice
  have c0 : w.cell? ⟨b, 0, none⟩ = some (.slice a l.length cap) := h.box.cell 0
  clear h
  go_enter Try.func12, Try.ntmps12
  go_wp2
  go_ret
  exact ⟨rfl, rfl⟩

/-- A goroutine's state; 0: there is none. -/
def ofI (l : List Nat) (g : Int) : Nat := if 0 ≤ g ∧ g < l.length then l.getD g.toNat 0 else 0

set_option maxHeartbeats 800000 in
theorem of_in {w : World} {b : Nat} {v : Value} {l : List Nat} (h : St w b v l) (g : Nat) (hg : g < l.length) (s : Nat) (hs : l.getD g 0 = s) :
    Calls Try.prog 13 #[.pointer (some ⟨b, 0, none⟩), .int .i64 g] w fun e w' => e = .returned (.int .i64 (s : Nat)) ∧ w = w' := by
  obtain ⟨a, cap, rfl, h1, h2, hc⟩ := h.slice
  have c0 : w.cell? ⟨b, 0, none⟩ = some (.slice a l.length cap) := h.box.cell 0
  obtain ⟨r, rfl, r1, r2, r3, r4⟩ := hc g hg
  rw [hs] at r3
  have hl := h.len
  clear h hc hs
  go_enter Try.func13, Try.ntmps13
  go_wp2
  go_ret
  exact ⟨rfl, rfl⟩
theorem of_out {w : World} {b : Nat} {v : Value} {l : List Nat} (h : St w b v l) (g : Int) (hg : g < 0 ∨ (0 ≤ g ∧ (l.length : Int) ≤ g)) :
    Calls Try.prog 13 #[.pointer (some ⟨b, 0, none⟩), .int .i64 g] w fun e w' => e = .returned (.int .i64 0) ∧ w = w' := by
  obtain ⟨a, cap, rfl, h1, h2, hc⟩ := h.slice
  have c0 : w.cell? ⟨b, 0, none⟩ = some (.slice a l.length cap) := h.box.cell 0
  have hl := h.len
  clear h hc
  rcases hg with g1 | ⟨g1, g2⟩
  all_goals
    go_enter Try.func13, Try.ntmps13
    go_wp2
    go_ret
    exact ⟨rfl, rfl⟩

set_option maxHeartbeats 800000 in
theorem count_any {w : World} {b : Nat} {v : Value} {l : List Nat} (h : St w b v l) (k : Nat) (k1 : 1 ≤ k) (k5 : k ≤ 5) :
    Calls Try.prog 11 #[.pointer (some ⟨b, 0, none⟩), .int .i64 k] w fun e w' => e = .returned (.int .i64 ((l.count k : Nat) : Int)) ∧ w = w' := by
  have c : w.cell? ⟨b, 1 + k, none⟩ = some (.int .i64 ((l.count k : Nat) : Int)) := by
    rw [h.box.cell (1 + k)]
    have hk : k = 1 ∨ k = 2 ∨ k = 3 ∨ k = 4 ∨ k = 5 := by omega
    rcases hk with rfl | rfl | rfl | rfl | rfl <;> rfl
  clear h
  go_enter Try.func11, Try.ntmps11
  go_wp2
  go_ret
  exact ⟨rfl, rfl⟩
theorem count_out {w : World} {b : Nat} {v : Value} {l : List Nat} (h : St w b v l) (k : Int) (hk : k ≤ 0 ∨ (0 < k ∧ 5 < k)) :
    Calls Try.prog 11 #[.pointer (some ⟨b, 0, none⟩), .int .i64 k] w fun e w' => e = .returned (.int .i64 0) ∧ w = w' := by
  rcases hk with k1 | ⟨k1, k2⟩
  all_goals
    go_enter Try.func11, Try.ntmps11
    go_wp2
    go_ret
    exact ⟨rfl, rfl⟩

end Go.Proofs.Ytbdnpjbookhebaa
