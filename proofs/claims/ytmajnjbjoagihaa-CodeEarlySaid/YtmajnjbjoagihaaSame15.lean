/- Same, Great. -/
import Derived.Test.YtmajnjbjoagihaaMayL15
import Derived.Laws.StructEq
namespace Go.Proofs.Ytmajnjbjoagihaa
open Go.RowKit
set_option linter.unusedVariables false
set_option linter.unusedSimpArgs false

set_option maxRecDepth 20000 in
set_option maxHeartbeats 6400000 in
theorem same_any {w : World} {g : Int} {fa fb : Value} {F : List (List I4)} (h : RdP w fa F) (k : RdP w fb F) (hF : F.length ≤ 1000) (hl : ∀ l ∈ F, l.length ≤ 1000) :
    Calls Try.prog 13 #[.agg #[.int .i64 g, fa], .agg #[.int .i64 g, fb]] w fun e w' => e = .returned (.bool true) ∧ Ex w w' := by
  obtain ⟨aa, ca, rfl⟩ := h.val
  obtain ⟨ab, cb, rfl⟩ := k.val
  have HA := Lib.hid h
  have HB := Lib.hid k
  have HLE := Lib.hid hl
  clear h k hl
  go_enter Try.func13, Try.ntmps13
  go_upto_region 3 with fail
  have e0 := (Ex.made w (.cells #[.int .i64 g, .slice aa F.length ca] 24)).trans (Ex.made _ (.cells #[.int .i64 g, .slice ab F.length cb] 24))
  have b0 := (Box.fresh w #[.int .i64 g, .slice aa F.length ca] 24).ex (Ex.made _ (.cells #[.int .i64 g, .slice ab F.length cb] 24))
  have b1 : Box ((w.alloc (.cells #[.int .i64 g, .slice aa F.length ca] 24)).alloc (.cells #[.int .i64 g, .slice ab F.length cb] 24)) (w.heap.size + 1) #[.int .i64 g, .slice ab F.length cb] 24 := by
    have := Box.fresh (w.alloc (.cells #[.int .i64 g, .slice aa F.length ca] 24)) #[.int .i64 g, .slice ab F.length cb] 24
    simpa using this
  obtain ⟨W, hW⟩ : ∃ W, W = (w.alloc (.cells #[.int .i64 g, .slice aa F.length ca] 24)).alloc (.cells #[.int .i64 g, .slice ab F.length cb] 24) := ⟨_, rfl⟩
  rw [← hW] at e0 b0 b1 ⊢
  have E0 := Lib.hid e0
  have B0 := Lib.hid b0
  have B1 := Lib.hid b1
  clear hW e0 b0 b1
  go_wp2_with fail
  go_loopw [5] (fun iv wr => ∃ i : Nat, i ≤ F.length ∧ iv = .int .i64 (i : Int) ∧ Ex W wr) (fun iv _ => F.length - (intOf iv).toNat)
  case atStart => exact ⟨0, by omega, rfl, Ex.refl _⟩
  case round =>
    obtain ⟨i, hi, rfl, hx⟩ := hrel
    have X := Lib.hid hx
    have b0 := B0.out.ex hx
    have b1 := B1.out.ex hx
    have x1 : wr.cell? ⟨w.heap.size, 1, none⟩ = some (.slice aa F.length ca) := b0.cell 1
    have y1 : wr.cell? ⟨w.heap.size + 1, 1, none⟩ = some (.slice ab F.length cb) := b1.cell 1
    clear hx b0 b1
    by_cases hlt : i < F.length
    · have hlt' : (i : Int) < (F.length : Int) := by omega
      obtain ⟨l, hll⟩ := get_some hlt
      obtain ⟨ga, oa, pa, qa, rfl, -, ha1, -, hca, ha2, hIa⟩ := (HA.out.ex (E0.out.trans X.out)).at2 hll
      obtain ⟨gb, ob, pb, qb, rfl, -, hb1, -, hcb, hb2, hIb⟩ := (HB.out.ex (E0.out.trans X.out)).at2 hll
      have HL := Lib.hid hlt
      have hl3 : l.length ≤ 1000 := HLE.out l (by obtain ⟨q1, q2⟩ := get_is hll; exact q2 ▸ List.getElem_mem q1)
      have HIa := Lib.hid hIa
      have HIb := Lib.hid hIb
      have r1 : F.length ≤ ca := ha1
      have r2 : F.length ≤ cb := hb1
      have HCa := Lib.hid hca
      have HCb := Lib.hid hcb
      clear hlt hll hIa hIb
      go_upto_region 6 with fail
      go_quiet (fail)
      have X2 := Lib.hid (X.out.trans (Ex.drawn wr nq))
      go_wp2_with fail
      go_loopw [6] (fun jv wr2 => ∃ j : Nat, j ≤ l.length ∧ jv = .int .i64 (j : Int) ∧ Ex wr wr2) (fun jv _ => l.length - (intOf jv).toNat)
      case atStart => exact ⟨0, by omega, rfl, Ex.drawn _ _⟩
      case round =>
        obtain ⟨j, hj, rfl, hx⟩ := hrel
        have XX := Lib.hid hx
        have b0 := B0.out.ex (X.out.trans hx)
        have b1 := B1.out.ex (X.out.trans hx)
        have x1 : wr.cell? ⟨w.heap.size, 1, none⟩ = some (.slice (some ⟨ga, oa, none⟩) F.length ca) := b0.cell 1
        have y1 : wr.cell? ⟨w.heap.size + 1, 1, none⟩ = some (.slice (some ⟨gb, ob, none⟩) F.length cb) := b1.cell 1
        have hca := cell_later hx HCa.out
        have hcb := cell_later hx HCb.out
        clear hx b0 b1
        by_cases hlt2 : j < l.length
        · have hlt2' : (j : Int) < (l.length : Int) := by omega
          obtain ⟨x, hx⟩ := get_some hlt2
          obtain ⟨ia, ja, rfl, -, z0, z1, z2, z3⟩ := (HIa.out.ex XX.out).at2 hx
          obtain ⟨ib, jb, rfl, -, u0, u1, u2, u3⟩ := (HIb.out.ex XX.out).at2 hx
          have r3 : l.length ≤ qa := ha2
          have r4 : l.length ≤ qb := hb2
          have HJ2 := Lib.hid hlt2
          clear hx hlt2
          obtain ⟨y0, y1', y2, y3⟩ := x
          dsimp only at z0 z1 z2 z3 u0 u1 u2 u3
          go_upto_region 11 with fail
          go_quiet (fail)
          have X3 := Lib.hid (XX.out.trans (Ex.drawn wr nq))
          clear z0 z1 z2 z3 u0 u1 u2 u3 x1 y1 hca hcb
          go_wp2_with fail
          go_roundw
          case rel => exact ⟨j + 1, by have := HJ2.out; omega, by go_num, X3.out⟩
          case measure => simp [intOf]; have := HJ2.out; omega
        · have hj3 : (l.length : Int) ≤ (j : Int) := by omega
          clear hlt2
          go_wp2_with fail
          go_roundw
          case rel => exact ⟨i + 1, by have := HL.out; omega, by go_num, X.out.trans XX.out⟩
          case measure => simp [intOf]; have := HL.out; omega
    · have hlt' : (F.length : Int) ≤ (i : Int) := by omega
      clear hlt
      go_wp2_with fail
      go_ret
      exact ⟨rfl, E0.out.trans X.out⟩

def SomeBool (e : Ending) : Prop := ∃ t : Bool, e = .returned (.bool t)
theorem some_bool (t : Bool) : SomeBool (.returned (.bool t)) := ⟨t, rfl⟩

set_option maxRecDepth 20000 in
set_option maxHeartbeats 3200000 in
theorem great_any {w : World} {g : Int} {fa : Value} {F : List (List I4)} (h : RdP w fa F) (hF : F.length ≤ maxLen) :
    Calls Try.prog 14 #[.agg #[.int .i64 g, fa]] w fun e w' => SomeBool e ∧ Ex w w' := by
  obtain ⟨aa, ca, rfl⟩ := h.val
  have HA := Lib.hid h
  unfold maxLen at hF
  clear h
  go_enter Try.func14, Try.ntmps14
  go_upto_region 1 with fail
  have e0 := Ex.made w (.cells #[.int .i64 g, .slice aa F.length ca] 24)
  have b0 := Box.fresh w #[.int .i64 g, .slice aa F.length ca] 24
  obtain ⟨W, hW⟩ : ∃ W, W = w.alloc (.cells #[.int .i64 g, .slice aa F.length ca] 24) := ⟨_, rfl⟩
  rw [← hW] at e0 b0 ⊢
  have E0 := Lib.hid e0
  have x1 : W.cell? ⟨w.heap.size, 1, none⟩ = some (.slice aa F.length ca) := b0.cell 1
  clear hW e0 b0
  go_wp2_with fail
  go_loop [3, 4] (fun nv iv => ∃ (i : Nat) (n : Int), i ≤ F.length ∧ iv = .int .i64 (i : Int) ∧ nv = .int .i64 n) (fun _ iv => F.length - (intOf iv).toNat)
  case atStart => exact ⟨0, _, by omega, rfl, rfl⟩
  case round =>
    obtain ⟨i, n, hi, rfl, rfl⟩ := hrel
    by_cases hlt : i < F.length
    · have hlt' : (i : Int) < (F.length : Int) := by omega
      obtain ⟨l, hll⟩ := get_some hlt
      obtain ⟨ga, oa, pa, qa, rfl, -, ha1, -, hca, ha2, hIa⟩ := (HA.out.ex E0.out).at2 hll
      have HL := Lib.hid hlt
      have r1 : F.length ≤ ca := ha1
      clear hlt hll hIa
      go_wp2_with fail
      go_round
      case rel => exact ⟨i + 1, _, by have := HL.out; omega, by go_num, rfl⟩
      case measure => simp [intOf]; have := HL.out; omega
    · have hlt' : (F.length : Int) ≤ (i : Int) := by omega
      clear hlt
      go_wp2_with fail
      go_ret
      exact ⟨some_bool _, E0.out⟩

end Go.Proofs.Ytmajnjbjoagihaa
