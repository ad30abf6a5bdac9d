/- state.May: which moves may be, as a function. -/
import Derived.Test.YtbdnpjbookhebaaChg
import Derived.LoopN
import Derived.Outline
import Derived.Deep.Cut
import Derived.Laws.Tables
import Derived.Laws.CopyOwn
namespace Go.Proofs.Ytbdnpjbookhebaa
open Go.RowKit
set_option linter.unusedVariables false

def wFree : Array Value := #[.bool false, .bool false, .bool false, .bool false, .bool false, .bool false,
  .bool false, .bool false, .bool false, .bool false, .bool false, .bool false,
  .bool false, .bool false, .bool false, .bool false, .bool false, .bool false,
  .bool false, .bool false, .bool false, .bool false, .bool false, .bool false,
  .bool false, .bool false, .bool false, .bool false, .bool false, .bool false,
  .bool false, .bool false, .bool false, .bool false, .bool false, .bool false]
def wFull : Array Value := #[.bool false, .bool false, .bool false, .bool false, .bool false, .bool false,
  .bool false, .bool false, .bool true, .bool false, .bool false, .bool false,
  .bool false, .bool true, .bool false, .bool true, .bool true, .bool true,
  .bool false, .bool true, .bool false, .bool false, .bool false, .bool false,
  .bool false, .bool true, .bool false, .bool false, .bool false, .bool false,
  .bool false, .bool false, .bool false, .bool false, .bool false, .bool false]


def wA0 : Array Value := wFree.setIfInBounds 8 (.bool true)
def wA1 : Array Value := wA0.setIfInBounds 13 (.bool true)
def wA2 : Array Value := wA1.setIfInBounds 15 (.bool true)
def wA3 : Array Value := wA2.setIfInBounds 16 (.bool true)
def wA4 : Array Value := wA3.setIfInBounds 17 (.bool true)
def wAt : Nat → Array Value
  | 0 => wA0
  | 1 => wA1
  | 2 => wA2
  | 3 => wA3
  | _ => wA4
theorem wFull_eq : (wA4.setIfInBounds 19 (.bool true)).setIfInBounds 25 (.bool true) = wFull := rfl


theorem two_boxes (w : World) (A B : Array Value) (t : TypeId) : Ex w ((w.alloc (.cells A t)).alloc (.cells B t)) ∧ Box ((w.alloc (.cells A t)).alloc (.cells B t)) w.heap.size A t ∧ Box ((w.alloc (.cells A t)).alloc (.cells B t)) (w.heap.size + 1) B t :=
  ⟨Ex.trans (Ex.made _ _) (Ex.made _ _), (Box.fresh w A t).next (Ex.refl _), by have := Box.fresh (w.alloc (.cells A t)) B t; simpa using this⟩

set_option maxRecDepth 100000 in
set_option maxHeartbeats 1600000 in
theorem ways_any (w : World) : Calls Try.prog 18 #[] w fun e w' => e = .returned (.agg wFull) ∧ Ex w w' := by
  go_enter Try.func18, Try.ntmps18
  go_upto_region 2 with fail
  obtain ⟨e0, b1, b2⟩ := two_boxes w wFree wFree 45
  obtain ⟨W, hW⟩ : ∃ W, W = (w.alloc (.cells wFree 45)).alloc (.cells wFree 45) := ⟨_, rfl⟩
  rw [← hW] at e0 b1 b2
  change Code.wp _ _ _ _ ((w.alloc (.cells wFree 45)).alloc (.cells wFree 45))
  rw [← hW]
  have E0 := Lib.hid e0
  have B1 := Lib.hid b1
  have B2 := Lib.hid b2
  have c8 : W.cell? ⟨w.heap.size + 1, 8, none⟩ = some (.bool false) := b2.cell 8
  have c13 : W.cell? ⟨w.heap.size + 1, 13, none⟩ = some (.bool false) := b2.cell 13
  have c15 : W.cell? ⟨w.heap.size + 1, 15, none⟩ = some (.bool false) := b2.cell 15
  have c16 : W.cell? ⟨w.heap.size + 1, 16, none⟩ = some (.bool false) := b2.cell 16
  have c17 : W.cell? ⟨w.heap.size + 1, 17, none⟩ = some (.bool false) := b2.cell 17
  have c19 : W.cell? ⟨w.heap.size + 1, 19, none⟩ = some (.bool false) := b2.cell 19
  have c25 : W.cell? ⟨w.heap.size + 1, 25, none⟩ = some (.bool false) := b2.cell 25
  have f8 := b2.soft 8
  have f13 := b2.soft 13
  have f15 := b2.soft 15
  have f16 := b2.soft 16
  have f17 := b2.soft 17
  have f19 := b2.soft 19
  have f25 := b2.soft 25
  have hs : w.heap.size + 1 < W.heap.size := b2.lt
  clear hW e0 b1 b2
  go_wp2
  have hL : Hid (Box ((W.setCell ⟨w.heap.size + 1, 8, none⟩ (.bool true)).alloc (.cells #[.int .i64 1, .int .i64 3, .int .i64 4, .int .i64 5] 3)) W.heap.size #[.int .i64 1, .int .i64 3, .int .i64 4, .int .i64 5] 3) := by
    have := Box.fresh (W.setCell ⟨w.heap.size + 1, 8, none⟩ (.bool true)) #[.int .i64 1, .int .i64 3, .int .i64 4, .int .i64 5] 3
    exact Lib.hid (by simpa using this)
  have hB := Lib.hid ((B2.out.put 8 (.bool true)).next (o := .cells #[.int .i64 1, .int .i64 3, .int .i64 4, .int .i64 5] 3) (Ex.refl _))
  have hA := Lib.hid ((B1.out.put_other (b := w.heap.size + 1) (by omega) 8 (.bool true)).next (o := .cells #[.int .i64 1, .int .i64 3, .int .i64 4, .int .i64 5] 3) (Ex.refl _))
  have hE := Lib.hid ((E0.out.setCell (p := ⟨w.heap.size + 1, 8, none⟩) (by simp) (.bool true)).alloc (by have := E0.out.size; simpa using this) (.cells #[.int .i64 1, .int .i64 3, .int .i64 4, .int .i64 5] 3))
  clear c8 c13 c15 c16 c17 c19 c25 f8 f13 f15 f16 f17 f19 f25 B1 B2 E0
  go_loopw [8] (fun iv wr => ∃ k : Nat, k ≤ 4 ∧ iv = .int .i64 k ∧ Box wr w.heap.size wFree 45 ∧ Box wr (w.heap.size + 1) (wAt k) 45 ∧ Box wr W.heap.size #[.int .i64 1, .int .i64 3, .int .i64 4, .int .i64 5] 3 ∧ Below w.heap.size w wr) (fun iv _ => 4 - (intOf iv).toNat)
  case atStart => exact ⟨0, by omega, rfl, hA.out, hB.out, hL.out, hE.out⟩
  case round =>
    obtain ⟨k, k1, rfl, h1, h2, h3, h4⟩ := hrel
    clear hA hB hL hE
    by_cases hk : k < 4
    · have H1 := Lib.hid h1
      have H2 := Lib.hid h2
      have H3 := Lib.hid h3
      have H4 := Lib.hid h4
      clear h1 h2 h3 h4
      match k, k1, hk, H2 with
      | 0, _, _, H2 =>
        have l0 : wr.cell? ⟨W.heap.size, 0, none⟩ = some (.int .i64 1) := H3.out.cell 0
        have c : wr.cell? ⟨w.heap.size + 1, 13, none⟩ = some (.bool false) := H2.out.cell 13
        have f := H2.out.soft 13
        go_wp2
        go_roundw
        case rel => exact ⟨1, by omega, rfl, H1.out.put_other (by omega) _ _, H2.out.put _ _, H3.out.put_other (by omega) _ _, H4.out.setCell (by simp) _⟩
        case measure => simp [intOf]
      | 1, _, _, H2 =>
        have l0 : wr.cell? ⟨W.heap.size, 1, none⟩ = some (.int .i64 3) := H3.out.cell 1
        have c : wr.cell? ⟨w.heap.size + 1, 15, none⟩ = some (.bool false) := H2.out.cell 15
        have f := H2.out.soft 15
        go_wp2
        go_roundw
        case rel => exact ⟨2, by omega, rfl, H1.out.put_other (by omega) _ _, H2.out.put _ _, H3.out.put_other (by omega) _ _, H4.out.setCell (by simp) _⟩
        case measure => simp [intOf]
      | 2, _, _, H2 =>
        have l0 : wr.cell? ⟨W.heap.size, 2, none⟩ = some (.int .i64 4) := H3.out.cell 2
        have c : wr.cell? ⟨w.heap.size + 1, 16, none⟩ = some (.bool false) := H2.out.cell 16
        have f := H2.out.soft 16
        go_wp2
        go_roundw
        case rel => exact ⟨3, by omega, rfl, H1.out.put_other (by omega) _ _, H2.out.put _ _, H3.out.put_other (by omega) _ _, H4.out.setCell (by simp) _⟩
        case measure => simp [intOf]
      | 3, _, _, H2 =>
        have l0 : wr.cell? ⟨W.heap.size, 3, none⟩ = some (.int .i64 5) := H3.out.cell 3
        have c : wr.cell? ⟨w.heap.size + 1, 17, none⟩ = some (.bool false) := H2.out.cell 17
        have f := H2.out.soft 17
        go_wp2
        go_roundw
        case rel => exact ⟨4, by omega, rfl, H1.out.put_other (by omega) _ _, H2.out.put _ _, H3.out.put_other (by omega) _ _, H4.out.setCell (by simp) _⟩
        case measure => simp [intOf]
    · obtain rfl : k = 4 := by omega
      have H1 := Lib.hid h1
      have H2 := Lib.hid h2
      have H4 := Lib.hid h4
      have c19 : wr.cell? ⟨w.heap.size + 1, 19, none⟩ = some (.bool false) := h2.cell 19
      have c25 : wr.cell? ⟨w.heap.size + 1, 25, none⟩ = some (.bool false) := h2.cell 25
      have f19 := h2.soft 19
      have f25 := h2.soft 25
      clear h1 h2 h3 h4
      go_upto_region 10 with fail
      have K1 := Lib.hid ((H1.out.put_other (b := w.heap.size + 1) (by omega) 19 (.bool true)).put_other (b := w.heap.size + 1) (by omega) 25 (.bool true))
      have K2 : Hid (Box ((wr.setCell ⟨w.heap.size + 1, 19, none⟩ (.bool true)).setCell ⟨w.heap.size + 1, 25, none⟩ (.bool true)) (w.heap.size + 1) wFull 45) := Lib.hid ((H2.out.put 19 (.bool true)).put 25 (.bool true))
      have K4 := Lib.hid ((H4.out.setCell (p := ⟨w.heap.size + 1, 19, none⟩) (by simp) (.bool true)).setCell (p := ⟨w.heap.size + 1, 25, none⟩) (by simp) (.bool true))
      obtain ⟨V, hV⟩ : ∃ V, V = (wr.setCell ⟨w.heap.size + 1, 19, none⟩ (.bool true)).setCell ⟨w.heap.size + 1, 25, none⟩ (.bool true) := ⟨_, rfl⟩
      rw [← hV] at K1 K2 K4 ⊢
      clear hV H1 H2 H4 c19 c25 f19 f25
      refine wp_region_list ?_
      refine wpList_load_row rfl 45 (.tmp 1) rfl (w.heap.size + 1) rfl 45 wFull (0, 0) _ K2.out Try.underlying45 rfl (by kernel_rfl) ?_
      refine wpList_store_row rfl 45 (.tmp 0) (.tmp 20) rfl w.heap.size wFull rfl rfl 45 wFree K1.out (by kernel_rfl) rfl (by kernel_rfl) ?_
      have J := Lib.hid (Box.row (ds := wFull) K1.out)
      have J4 := Lib.hid (below_setRow K4.out (Nat.le_refl w.heap.size) wFull)
      obtain ⟨U, hU⟩ : ∃ U, U = V.setRow w.heap.size wFull := ⟨_, rfl⟩
      rw [← hU] at J J4 ⊢
      clear hU K1 K2 K4
      go_wp2
      exact bodyPost_ret (results_cell_row rfl _ _ w.heap.size 45 wFull (0, 0) _ rfl J.out Try.underlying45 rfl (by kernel_rfl)) rfl ⟨rfl, J4.out⟩

/-- Which moves may be. -/
def mayB (f t : Int) : Bool := decide ((f = 1 ∧ t = 2) ∨ (f = 2 ∧ (t = 1 ∨ t = 3 ∨ t = 4 ∨ t = 5)) ∨ (f = 3 ∧ t = 1) ∨ (f = 4 ∧ t = 1))

def wRow (f : Int) : Array Value := (wFull.toList.drop (6 * f.toNat)).take 6 |>.toArray

theorem idx_row (f : Int) (h0 : 0 ≤ f) (h6 : f < 6) (w : World) : (Instr.index 45 (.agg wFull) (.int .i64 f)).run Try.prog w = .ok (.agg (wRow f)) w := by
  have hf : f = 0 ∨ f = 1 ∨ f = 2 ∨ f = 3 ∨ f = 4 ∨ f = 5 := by omega
  rcases hf with rfl | rfl | rfl | rfl | rfl | rfl <;> rfl
theorem idx_cell (f t : Int) (h0 : 0 ≤ f) (h6 : f < 6) (t0 : 0 ≤ t) (t6 : t < 6) (w : World) : (Instr.index 44 (.agg (wRow f)) (.int .i64 t)).run Try.prog w = .ok (.bool (mayB f t)) w := by
  have hf : f = 0 ∨ f = 1 ∨ f = 2 ∨ f = 3 ∨ f = 4 ∨ f = 5 := by omega
  have ht : t = 0 ∨ t = 1 ∨ t = 2 ∨ t = 3 ∨ t = 4 ∨ t = 5 := by omega
  rcases hf with rfl | rfl | rfl | rfl | rfl | rfl <;> rcases ht with rfl | rfl | rfl | rfl | rfl | rfl <;> rfl

set_option maxHeartbeats 800000 in
theorem may_in (f t : Int) (h0 : 0 ≤ f) (h6 : f < 6) (t0 : 0 ≤ t) (t6 : t < 6) (w : World) : Calls Try.prog 17 #[.int .i64 f, .int .i64 t] w fun e w' => e = .returned (.bool (mayB f t)) ∧ Ex w w' := by
  have i1 := idx_row f h0 h6
  have i2 := idx_cell f t h0 h6 t0 t6
  obtain ⟨R, hR⟩ : ∃ R, wRow f = R := ⟨_, rfl⟩
  obtain ⟨Fu, hF⟩ : ∃ R, wFull = R := ⟨_, rfl⟩
  have K := ways_any
  obtain ⟨b, hb⟩ : ∃ b, mayB f t = b := ⟨_, rfl⟩
  rw [hR] at i1 i2
  rw [hF] at i1 K
  rw [hb] at i2 ⊢
  have HK := Lib.hid K
  clear hR hF hb K
  go_enter Try.func17, Try.ntmps17
  go_wp2_with fail
  refine (HK.out _).mono ?_
  rintro e w1 ⟨rfl, hw⟩
  have Hw := Lib.hid hw
  clear hw
  go_wp2_with fail
  go_ret
  exact ⟨rfl, Hw.out⟩

set_option maxHeartbeats 800000 in
theorem may_out (f t : Int) (h : f < 0 ∨ (0 ≤ f ∧ 6 ≤ f) ∨ (0 ≤ f ∧ f < 6 ∧ t < 0) ∨ (0 ≤ f ∧ f < 6 ∧ 0 ≤ t ∧ 6 ≤ t)) (w : World) : Calls Try.prog 17 #[.int .i64 f, .int .i64 t] w fun e w' => e = .returned (.bool false) ∧ Ex w w' := by
  rcases h with h1 | ⟨h1, h2⟩ | ⟨h1, h2, h3⟩ | ⟨h1, h2, h3, h4⟩
  all_goals
    go_enter Try.func17, Try.ntmps17
    go_wp2_with fail
    go_ret
    exact ⟨rfl, Ex.refl _⟩

theorem may_any (f t : Int) (w : World) : Calls Try.prog 17 #[.int .i64 f, .int .i64 t] w fun e w' => e = .returned (.bool (mayB f t)) ∧ Ex w w' := by
  by_cases h1 : 0 ≤ f ∧ f < 6 ∧ 0 ≤ t ∧ t < 6
  · exact may_in f t h1.1 h1.2.1 h1.2.2.1 h1.2.2.2 w
  · have e : mayB f t = false := by
      unfold mayB
      exact decide_eq_false (by omega)
    rw [e]
    exact may_out f t (by omega) w

end Go.Proofs.Ytbdnpjbookhebaa
