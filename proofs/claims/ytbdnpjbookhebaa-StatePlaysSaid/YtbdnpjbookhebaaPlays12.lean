/- StatePlays: goroutines' states go as the document says. -/
import Derived.Test.YtbdnpjbookhebaaLives12
namespace Go.Proofs.Ytbdnpjbookhebaa
open Go.RowKit
set_option linter.unusedVariables false

/-- So many are in a state below k. -/
def sumTo (L : List Nat) : Nat → Nat
  | 0 => 0
  | k + 1 => sumTo L k + L.count (k + 1)
theorem sum_all {L : List Nat} (h : ∀ s ∈ L, 1 ≤ s ∧ s ≤ 5) : sumTo L 5 = L.length := by
  induction L with
  | nil => rfl
  | cons x L ih =>
    have h1 := h x (by simp)
    have h2 := ih fun s hs => h s (by simp [hs])
    simp only [sumTo, List.count_cons, List.length_cons] at h2 ⊢
    simp only [Nat.reduceAdd] at h2 ⊢
    rcases (by omega : x = 1 ∨ x = 2 ∨ x = 3 ∨ x = 4 ∨ x = 5) with rfl | rfl | rfl | rfl | rfl <;> simp <;> omega
theorem sum_le (L : List Nat) : ∀ k, k ≤ 5 → sumTo L k ≤ k * L.length
  | 0, _ => by simp [sumTo]
  | k + 1, h => by
    have := sum_le L k (by omega)
    have := List.count_le_length (a := k + 1) (l := L)
    simp only [sumTo, Nat.add_mul]; omega

/-- Two lists of numbers that are the same. -/
def RowOf (w : World) (v : Value) (n : Nat) (l : List Nat) : Prop := ∃ a cap, v = .slice a n cap ∧ n ≤ cap ∧ cap ≤ maxLen ∧ l.length = n ∧ ∀ j, j < n → ∃ g, a = some ⟨g, 0, none⟩ ∧ g < w.heap.size ∧ w.cell? ⟨g, j, none⟩ = some (.int .i64 (l.getD j 0 : Nat)) ∧ w.frozen? ⟨g, j, none⟩ = false
theorem row_of {w : World} {B : Nat} {v : Value} {l : List Nat} (h : w.ownsRow B 3 1 v l.length (ints l)) : RowOf w v l.length l := by
  rcases row_shape h with ⟨h1, h2, h3⟩ | ⟨g, cap, rfl, h2, h3, h4, h5⟩
  · exact ⟨none, 0, by rw [h1, h2], by omega, by unfold maxLen; omega, rfl, fun j hj => by omega⟩
  · refine ⟨some ⟨g, 0, none⟩, cap, rfl, h4, h5, rfl, fun j hj => ⟨g, rfl, h3, ?_, ?_⟩⟩
    · rw [h.cellAt j (by omega)]
      simp [ints, hj]
    · exact h.frozenAt j
theorem RowOf.ex {w w' : World} {v : Value} {n : Nat} {l : List Nat} (h : RowOf w v n l) (k : Ex w w') : RowOf w' v n l := by
  obtain ⟨a, cap, h1, h2, h3, h4, h5⟩ := h
  refine ⟨a, cap, h1, h2, h3, h4, fun j hj => ?_⟩
  obtain ⟨g, e, hg, hc, hf⟩ := h5 j hj
  exact ⟨g, e, Nat.lt_of_lt_of_le hg k.size, (k.cell (p := ⟨g, j, none⟩) hg).trans hc, (k.frozen (p := ⟨g, j, none⟩) hg).trans hf⟩

set_option maxRecDepth 10000 in
set_option maxHeartbeats 1600000 in
theorem ints_any {w : World} {v u : Value} {n : Nat} {l : List Nat} (hn : n ≤ 100000) (h : RowOf w v n l) (k : RowOf w u n l) :
    Calls Try.prog 15 #[v, u] w fun e w' => e = .returned (.bool true) ∧ Ex w w' := by
  obtain ⟨a, cap, rfl, -, -, hl, hc⟩ := h
  obtain ⟨a', cap', rfl, -, -, -, hc'⟩ := k
  have HC := Lib.hid hc
  have HC' := Lib.hid hc'
  clear hc hc'
  go_enter Try.func15, Try.ntmps15
  go_wp2
  go_loopw [5] (fun iv wr => ∃ i : Nat, i ≤ n ∧ iv = .int .i64 i ∧ Ex w wr) (fun iv _ => n - (intOf iv).toNat)
  case atStart => exact ⟨0, by omega, rfl, Ex.refl _⟩
  case round =>
    obtain ⟨i, hi, rfl, hx⟩ := hrel
    have HX := Lib.hid hx
    clear hx
    by_cases hin : i < n
    · obtain ⟨g, rfl, g1, g2, -⟩ := HC.out i hin
      obtain ⟨g', rfl, g1', g2', -⟩ := HC'.out i hin
      obtain ⟨x, hx⟩ : ∃ x, l.getD i 0 = x := ⟨_, rfl⟩
      rw [hx] at g2 g2'
      have d1 : wr.cell? ⟨g, i, none⟩ = some (.int .i64 (x : Nat)) := (HX.out.cell (p := ⟨g, i, none⟩) g1).trans g2
      have d2 : wr.cell? ⟨g', i, none⟩ = some (.int .i64 (x : Nat)) := (HX.out.cell (p := ⟨g', i, none⟩) g1').trans g2'
      have i0 : (0 : Int) ≤ (i : Int) := by omega
      have i1 : (i : Int) < (n : Int) := by omega
      clear hx g2 g2'
      go_wp2_with fail
      go_quiet (fail)
      go_wp2_with fail
      go_roundw
      case rel => exact ⟨i + 1, by omega, by go_num, HX.out.trans (Ex.drawn _ _)⟩
      case measure => simp [intOf]; omega
    · obtain rfl : i = n := by omega
      go_wp2_with fail
      go_ret
      exact ⟨rfl, HX.out⟩

end Go.Proofs.Ytbdnpjbookhebaa
