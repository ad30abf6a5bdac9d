/- Great. -/
import Derived.Test.YtmlobpapjfkbmaaK5
namespace Go.Proofs.Ytmlobpapjfkbmaa.C15
open Go.RowKit
set_option linter.unusedVariables false
set_option maxRecDepth 20000
set_option linter.unusedSimpArgs false

def SomeBool (e : Ending) : Prop := ∃ t : Bool, e = .returned (.bool t)
theorem some_bool (t : Bool) : SomeBool (.returned (.bool t)) := ⟨t, rfl⟩

set_option maxRecDepth 20000 in
set_option maxHeartbeats 3200000 in
theorem great_any {w : World} {g : Int} {fa : Value} {F : List (List I4)} (h : RdP w fa F) (hF : F.length ≤ maxLen) :
    Calls Try.prog 12 #[.agg #[.int .i64 g, fa]] w fun e w' => SomeBool e ∧ Ex w w' := by
  obtain ⟨aa, ca, rfl⟩ := h.val
  have HA := Lib.hid h
  unfold maxLen at hF
  clear h
  go_enter Try.func12, Try.ntmps12
  go_upto_region 1 with fail
  have e0 := Ex.made w (.cells #[.int .i64 g, .slice aa F.length ca] 24)
  have b0 := Box.fresh w #[.int .i64 g, .slice aa F.length ca] 24
  obtain ⟨W, hW⟩ : ∃ W, W = w.alloc (.cells #[.int .i64 g, .slice aa F.length ca] 24) := ⟨_, rfl⟩
  rw [← hW] at e0 b0 ⊢
  have E0 := Lib.hid e0
  have x1 : W.cell? ⟨w.heap.size, 1, none⟩ = some (.slice aa F.length ca) := b0.cell 1
  clear hW e0 b0
  go_wp2_with fail
  go_loop [3, 4] (fun nv iv => ∃ (i : Nat) (n : Int), i ≤ F.length ∧ iv = .int .i64 (i : Int) ∧ nv = .int .i64 n) (fun _ iv => F.length - (intOf iv).toNat)
  case atStart => exact ⟨0, _, by omega, rfl, rfl⟩
  case round =>
    obtain ⟨i, n, hi, rfl, rfl⟩ := hrel
    by_cases hlt : i < F.length
    · have hlt' : (i : Int) < (F.length : Int) := by omega
      obtain ⟨l, hll⟩ := get_some hlt
      obtain ⟨ga, oa, pa, qa, rfl, -, ha1, -, hca, ha2, hIa⟩ := (HA.out.ex E0.out).at2 hll
      have HL := Lib.hid hlt
      have r1 : F.length ≤ ca := ha1
      clear hlt hll hIa
      go_wp2_with fail
      go_round
      case rel => exact ⟨i + 1, _, by have := HL.out; omega, by go_num, rfl⟩
      case measure => simp [intOf]; have := HL.out; omega
    · have hlt' : (F.length : Int) ≤ (i : Int) := by omega
      clear hlt
      go_wp2_with fail
      go_ret
      exact ⟨some_bool _, E0.out⟩

end Go.Proofs.Ytmlobpapjfkbmaa.C15
