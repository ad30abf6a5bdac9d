/- Two lists of numbers that are the same. -/
import Derived.Test.YtmlobpapjfkbmaaK4
namespace Go.Proofs.Ytmlobpapjfkbmaa.T13
open Go.RowKit
set_option linter.unusedVariables false
set_option maxRecDepth 20000

def RowI (w : World) (v : Value) (l : List Int) : Prop := ∃ a cap, v = .slice a l.length cap ∧ ∀ j, j < l.length → ∃ g off, a = some ⟨g, off, none⟩ ∧ g < w.heap.size ∧ w.cell? ⟨g, off + j, none⟩ = some (.int .i64 (l.getD j 0))
theorem rowI_of {w : World} {B : Nat} {v : Value} {l : List Int} (h : w.ownsRow B 3 1 v l.length (intsZ l)) : RowI w v l := by
  rcases row_shape h with ⟨h1, h2, h3⟩ | ⟨g, cap, rfl, h2, h3, h4, h5⟩
  · exact ⟨none, 0, by rw [h1, h2], fun j hj => by omega⟩
  · refine ⟨some ⟨g, 0, none⟩, cap, rfl, fun j hj => ⟨g, 0, rfl, h3, ?_⟩⟩
    rw [Nat.zero_add, h.cellAt j (by omega)]
    simp [intsZ, hj]
theorem RowI.ex {w w' : World} {v : Value} {l : List Int} (h : RowI w v l) (k : Ex w w') : RowI w' v l := by
  obtain ⟨a, cap, h1, h5⟩ := h
  refine ⟨a, cap, h1, fun j hj => ?_⟩
  obtain ⟨g, off, e, hg, hc⟩ := h5 j hj
  exact ⟨g, off, e, Nat.lt_of_lt_of_le hg k.size, (k.cell (p := ⟨g, off + j, none⟩) hg).trans hc⟩

set_option maxRecDepth 10000 in
set_option maxHeartbeats 1600000 in
theorem rints_any {w : World} {v u : Value} {l : List Int} (hn : l.length ≤ 100000) (h : RowI w v l) (k : RowI w u l) :
    Calls Try.prog 21 #[v, u] w fun e w' => e = .returned (.bool true) ∧ Ex w w' := by
  obtain ⟨n, hl⟩ : ∃ n, l.length = n := ⟨_, rfl⟩
  unfold RowI at h k
  rw [hl] at h k hn
  obtain ⟨a, cap, rfl, hc⟩ := h
  obtain ⟨a', cap', rfl, hc'⟩ := k
  have HC := Lib.hid hc
  have HC' := Lib.hid hc'
  clear hc hc' hl
  go_enter Try.func21, Try.ntmps21
  go_wp2
  go_loopw [5] (fun iv wr => ∃ i : Nat, i ≤ n ∧ iv = .int .i64 i ∧ Ex w wr) (fun iv _ => n - (intOf iv).toNat)
  case atStart => exact ⟨0, by omega, rfl, Ex.refl _⟩
  case round =>
    obtain ⟨i, hi, rfl, hx⟩ := hrel
    have HX := Lib.hid hx
    clear hx
    by_cases hin : i < n
    · obtain ⟨g, off, rfl, g1, g2⟩ := HC.out i hin
      obtain ⟨g', off', rfl, g1', g2'⟩ := HC'.out i hin
      obtain ⟨x, hx⟩ : ∃ x, l.getD i 0 = x := ⟨_, rfl⟩
      rw [hx] at g2 g2'
      have d1 : wr.cell? ⟨g, off + i, none⟩ = some (.int .i64 x) := (HX.out.cell (p := ⟨g, off + i, none⟩) g1).trans g2
      have d2 : wr.cell? ⟨g', off' + i, none⟩ = some (.int .i64 x) := (HX.out.cell (p := ⟨g', off' + i, none⟩) g1').trans g2'
      have i0 : (0 : Int) ≤ (i : Int) := by omega
      have i1 : (i : Int) < (n : Int) := by omega
      clear hx g2 g2'
      go_wp2_with fail
      go_quiet (fail)
      go_wp2_with fail
      go_roundw
      case rel => exact ⟨i + 1, by omega, by go_num, HX.out.trans (Ex.drawn _ _)⟩
      case measure => simp [intOf]; omega
    · obtain rfl : i = n := by omega
      go_wp2_with fail
      go_ret
      exact ⟨rfl, HX.out⟩

end Go.Proofs.Ytmlobpapjfkbmaa.T13
