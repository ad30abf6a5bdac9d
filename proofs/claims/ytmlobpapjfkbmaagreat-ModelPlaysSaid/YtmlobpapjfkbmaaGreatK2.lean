/- Part 2 of what is proved of the program of layer 16: May12, States, States2, States3, Alive. -/
import Derived.Test.YtmlobpapjfkbmaaGreatK1
import Derived.LoopN
import Derived.Outline
import Derived.Deep.Cut
import Derived.Laws.Tables
import Derived.Laws.CopyOwn
import Derived.RegionTactic
import Derived.BigRegion
/- state.May: which moves may be, as a function. -/
namespace Go.Proofs.YtmlobpapjfkbmaaGreat.S12
open Go.RowKit
set_option linter.unusedVariables false
set_option maxRecDepth 20000

def wFree : Array Value := #[.bool false, .bool false, .bool false, .bool false, .bool false, .bool false,
  .bool false, .bool false, .bool false, .bool false, .bool false, .bool false,
  .bool false, .bool false, .bool false, .bool false, .bool false, .bool false,
  .bool false, .bool false, .bool false, .bool false, .bool false, .bool false,
  .bool false, .bool false, .bool false, .bool false, .bool false, .bool false,
  .bool false, .bool false, .bool false, .bool false, .bool false, .bool false]
def wFull : Array Value := #[.bool false, .bool false, .bool false, .bool false, .bool false, .bool false,
  .bool false, .bool false, .bool true, .bool false, .bool false, .bool false,
  .bool false, .bool true, .bool false, .bool true, .bool true, .bool true,
  .bool false, .bool true, .bool false, .bool false, .bool false, .bool false,
  .bool false, .bool true, .bool false, .bool false, .bool false, .bool false,
  .bool false, .bool false, .bool false, .bool false, .bool false, .bool false]


def wA0 : Array Value := wFree.setIfInBounds 8 (.bool true)
def wA1 : Array Value := wA0.setIfInBounds 13 (.bool true)
def wA2 : Array Value := wA1.setIfInBounds 15 (.bool true)
def wA3 : Array Value := wA2.setIfInBounds 16 (.bool true)
def wA4 : Array Value := wA3.setIfInBounds 17 (.bool true)
def wAt : Nat → Array Value
  | 0 => wA0
  | 1 => wA1
  | 2 => wA2
  | 3 => wA3
  | _ => wA4
theorem wFull_eq : (wA4.setIfInBounds 19 (.bool true)).setIfInBounds 25 (.bool true) = wFull := rfl


theorem two_boxes (w : World) (A B : Array Value) (t : TypeId) : Ex w ((w.alloc (.cells A t)).alloc (.cells B t)) ∧ Box ((w.alloc (.cells A t)).alloc (.cells B t)) w.heap.size A t ∧ Box ((w.alloc (.cells A t)).alloc (.cells B t)) (w.heap.size + 1) B t :=
  ⟨Ex.trans (Ex.made _ _) (Ex.made _ _), (Box.fresh w A t).next (Ex.refl _), by have := Box.fresh (w.alloc (.cells A t)) B t; simpa using this⟩

set_option maxRecDepth 100000 in
set_option maxHeartbeats 1600000 in
theorem ways_any (w : World) : Calls Tryz.prog 82 #[] w fun e w' => e = .returned (.agg wFull) ∧ Ex w w' := by
  go_enter Tryz.func82, Tryz.ntmps82
  go_upto_region 2 with fail
  obtain ⟨e0, b1, b2⟩ := two_boxes w wFree wFree 131
  obtain ⟨W, hW⟩ : ∃ W, W = (w.alloc (.cells wFree 131)).alloc (.cells wFree 131) := ⟨_, rfl⟩
  rw [← hW] at e0 b1 b2
  change Code.wp _ _ _ _ ((w.alloc (.cells wFree 131)).alloc (.cells wFree 131))
  rw [← hW]
  have E0 := Lib.hid e0
  have B1 := Lib.hid b1
  have B2 := Lib.hid b2
  have c8 : W.cell? ⟨w.heap.size + 1, 8, none⟩ = some (.bool false) := b2.cell 8
  have c13 : W.cell? ⟨w.heap.size + 1, 13, none⟩ = some (.bool false) := b2.cell 13
  have c15 : W.cell? ⟨w.heap.size + 1, 15, none⟩ = some (.bool false) := b2.cell 15
  have c16 : W.cell? ⟨w.heap.size + 1, 16, none⟩ = some (.bool false) := b2.cell 16
  have c17 : W.cell? ⟨w.heap.size + 1, 17, none⟩ = some (.bool false) := b2.cell 17
  have c19 : W.cell? ⟨w.heap.size + 1, 19, none⟩ = some (.bool false) := b2.cell 19
  have c25 : W.cell? ⟨w.heap.size + 1, 25, none⟩ = some (.bool false) := b2.cell 25
  have f8 := b2.soft 8
  have f13 := b2.soft 13
  have f15 := b2.soft 15
  have f16 := b2.soft 16
  have f17 := b2.soft 17
  have f19 := b2.soft 19
  have f25 := b2.soft 25
  have hs : w.heap.size + 1 < W.heap.size := b2.lt
  clear hW e0 b1 b2
  go_wp2
  have hL : Hid (Box ((W.setCell ⟨w.heap.size + 1, 8, none⟩ (.bool true)).alloc (.cells #[.int .i64 1, .int .i64 3, .int .i64 4, .int .i64 5] 3)) W.heap.size #[.int .i64 1, .int .i64 3, .int .i64 4, .int .i64 5] 3) := by
    have := Box.fresh (W.setCell ⟨w.heap.size + 1, 8, none⟩ (.bool true)) #[.int .i64 1, .int .i64 3, .int .i64 4, .int .i64 5] 3
    exact Lib.hid (by simpa using this)
  have hB := Lib.hid ((B2.out.put 8 (.bool true)).next (o := .cells #[.int .i64 1, .int .i64 3, .int .i64 4, .int .i64 5] 3) (Ex.refl _))
  have hA := Lib.hid ((B1.out.put_other (b := w.heap.size + 1) (by omega) 8 (.bool true)).next (o := .cells #[.int .i64 1, .int .i64 3, .int .i64 4, .int .i64 5] 3) (Ex.refl _))
  have hE := Lib.hid ((E0.out.setCell (p := ⟨w.heap.size + 1, 8, none⟩) (by simp) (.bool true)).alloc (by have := E0.out.size; simpa using this) (.cells #[.int .i64 1, .int .i64 3, .int .i64 4, .int .i64 5] 3))
  clear c8 c13 c15 c16 c17 c19 c25 f8 f13 f15 f16 f17 f19 f25 B1 B2 E0
  go_loopw [8] (fun iv wr => ∃ k : Nat, k ≤ 4 ∧ iv = .int .i64 k ∧ Box wr w.heap.size wFree 131 ∧ Box wr (w.heap.size + 1) (wAt k) 131 ∧ Box wr W.heap.size #[.int .i64 1, .int .i64 3, .int .i64 4, .int .i64 5] 3 ∧ Below w.heap.size w wr) (fun iv _ => 4 - (intOf iv).toNat)
  case atStart => exact ⟨0, by omega, rfl, hA.out, hB.out, hL.out, hE.out⟩
  case round =>
    obtain ⟨k, k1, rfl, h1, h2, h3, h4⟩ := hrel
    clear hA hB hL hE
    by_cases hk : k < 4
    · have H1 := Lib.hid h1
      have H2 := Lib.hid h2
      have H3 := Lib.hid h3
      have H4 := Lib.hid h4
      clear h1 h2 h3 h4
      match k, k1, hk, H2 with
      | 0, _, _, H2 =>
        have l0 : wr.cell? ⟨W.heap.size, 0, none⟩ = some (.int .i64 1) := H3.out.cell 0
        have c : wr.cell? ⟨w.heap.size + 1, 13, none⟩ = some (.bool false) := H2.out.cell 13
        have f := H2.out.soft 13
        go_wp2
        go_roundw
        case rel => exact ⟨1, by omega, rfl, H1.out.put_other (by omega) _ _, H2.out.put _ _, H3.out.put_other (by omega) _ _, H4.out.setCell (by simp) _⟩
        case measure => simp [intOf]
      | 1, _, _, H2 =>
        have l0 : wr.cell? ⟨W.heap.size, 1, none⟩ = some (.int .i64 3) := H3.out.cell 1
        have c : wr.cell? ⟨w.heap.size + 1, 15, none⟩ = some (.bool false) := H2.out.cell 15
        have f := H2.out.soft 15
        go_wp2
        go_roundw
        case rel => exact ⟨2, by omega, rfl, H1.out.put_other (by omega) _ _, H2.out.put _ _, H3.out.put_other (by omega) _ _, H4.out.setCell (by simp) _⟩
        case measure => simp [intOf]
      | 2, _, _, H2 =>
        have l0 : wr.cell? ⟨W.heap.size, 2, none⟩ = some (.int .i64 4) := H3.out.cell 2
        have c : wr.cell? ⟨w.heap.size + 1, 16, none⟩ = some (.bool false) := H2.out.cell 16
        have f := H2.out.soft 16
        go_wp2
        go_roundw
        case rel => exact ⟨3, by omega, rfl, H1.out.put_other (by omega) _ _, H2.out.put _ _, H3.out.put_other (by omega) _ _, H4.out.setCell (by simp) _⟩
        case measure => simp [intOf]
      | 3, _, _, H2 =>
        have l0 : wr.cell? ⟨W.heap.size, 3, none⟩ = some (.int .i64 5) := H3.out.cell 3
        have c : wr.cell? ⟨w.heap.size + 1, 17, none⟩ = some (.bool false) := H2.out.cell 17
        have f := H2.out.soft 17
        go_wp2
        go_roundw
        case rel => exact ⟨4, by omega, rfl, H1.out.put_other (by omega) _ _, H2.out.put _ _, H3.out.put_other (by omega) _ _, H4.out.setCell (by simp) _⟩
        case measure => simp [intOf]
    · obtain rfl : k = 4 := by omega
      have H1 := Lib.hid h1
      have H2 := Lib.hid h2
      have H4 := Lib.hid h4
      have c19 : wr.cell? ⟨w.heap.size + 1, 19, none⟩ = some (.bool false) := h2.cell 19
      have c25 : wr.cell? ⟨w.heap.size + 1, 25, none⟩ = some (.bool false) := h2.cell 25
      have f19 := h2.soft 19
      have f25 := h2.soft 25
      clear h1 h2 h3 h4
      go_upto_region 10 with fail
      have K1 := Lib.hid ((H1.out.put_other (b := w.heap.size + 1) (by omega) 19 (.bool true)).put_other (b := w.heap.size + 1) (by omega) 25 (.bool true))
      have K2 : Hid (Box ((wr.setCell ⟨w.heap.size + 1, 19, none⟩ (.bool true)).setCell ⟨w.heap.size + 1, 25, none⟩ (.bool true)) (w.heap.size + 1) wFull 131) := Lib.hid ((H2.out.put 19 (.bool true)).put 25 (.bool true))
      have K4 := Lib.hid ((H4.out.setCell (p := ⟨w.heap.size + 1, 19, none⟩) (by simp) (.bool true)).setCell (p := ⟨w.heap.size + 1, 25, none⟩) (by simp) (.bool true))
      obtain ⟨V, hV⟩ : ∃ V, V = (wr.setCell ⟨w.heap.size + 1, 19, none⟩ (.bool true)).setCell ⟨w.heap.size + 1, 25, none⟩ (.bool true) := ⟨_, rfl⟩
      rw [← hV] at K1 K2 K4 ⊢
      clear hV H1 H2 H4 c19 c25 f19 f25
      refine wp_region_list ?_
      refine wpList_load_row rfl 131 (.tmp 1) rfl (w.heap.size + 1) rfl 131 wFull (0, 0) _ K2.out Tryz.underlying131 rfl (by kernel_rfl) ?_
      refine wpList_store_row rfl 131 (.tmp 0) (.tmp 20) rfl w.heap.size wFull rfl rfl 131 wFree K1.out (by kernel_rfl) rfl (by kernel_rfl) ?_
      have J := Lib.hid (Box.row (ds := wFull) K1.out)
      have J4 := Lib.hid (below_setRow K4.out (Nat.le_refl w.heap.size) wFull)
      obtain ⟨U, hU⟩ : ∃ U, U = V.setRow w.heap.size wFull := ⟨_, rfl⟩
      rw [← hU] at J J4 ⊢
      clear hU K1 K2 K4
      go_wp2
      exact bodyPost_ret (results_cell_row rfl _ _ w.heap.size 131 wFull (0, 0) _ rfl J.out Tryz.underlying131 rfl (by kernel_rfl)) rfl ⟨rfl, J4.out⟩

/-- Which moves may be. -/
def mayB (f t : Int) : Bool := decide ((f = 1 ∧ t = 2) ∨ (f = 2 ∧ (t = 1 ∨ t = 3 ∨ t = 4 ∨ t = 5)) ∨ (f = 3 ∧ t = 1) ∨ (f = 4 ∧ t = 1))

def wRow (f : Int) : Array Value := (wFull.toList.drop (6 * f.toNat)).take 6 |>.toArray

set_option maxRecDepth 20000 in
theorem idx_row (f : Int) (h0 : 0 ≤ f) (h6 : f < 6) (w : World) : (Instr.index 131 (.agg wFull) (.int .i64 f)).run Tryz.prog w = .ok (.agg (wRow f)) w := by
  have hf : f = 0 ∨ f = 1 ∨ f = 2 ∨ f = 3 ∨ f = 4 ∨ f = 5 := by omega
  rcases hf with rfl | rfl | rfl | rfl | rfl | rfl <;> rfl
set_option maxRecDepth 20000 in
theorem idx_cell (f t : Int) (h0 : 0 ≤ f) (h6 : f < 6) (t0 : 0 ≤ t) (t6 : t < 6) (w : World) : (Instr.index 130 (.agg (wRow f)) (.int .i64 t)).run Tryz.prog w = .ok (.bool (mayB f t)) w := by
  have hf : f = 0 ∨ f = 1 ∨ f = 2 ∨ f = 3 ∨ f = 4 ∨ f = 5 := by omega
  have ht : t = 0 ∨ t = 1 ∨ t = 2 ∨ t = 3 ∨ t = 4 ∨ t = 5 := by omega
  rcases hf with rfl | rfl | rfl | rfl | rfl | rfl <;> rcases ht with rfl | rfl | rfl | rfl | rfl | rfl <;> rfl

set_option maxHeartbeats 800000 in
theorem may_in (f t : Int) (h0 : 0 ≤ f) (h6 : f < 6) (t0 : 0 ≤ t) (t6 : t < 6) (w : World) : Calls Tryz.prog 53 #[.int .i64 f, .int .i64 t] w fun e w' => e = .returned (.bool (mayB f t)) ∧ Ex w w' := by
  have i1 := idx_row f h0 h6
  have i2 := idx_cell f t h0 h6 t0 t6
  obtain ⟨R, hR⟩ : ∃ R, wRow f = R := ⟨_, rfl⟩
  obtain ⟨Fu, hF⟩ : ∃ R, wFull = R := ⟨_, rfl⟩
  have K := ways_any
  obtain ⟨b, hb⟩ : ∃ b, mayB f t = b := ⟨_, rfl⟩
  rw [hR] at i1 i2
  rw [hF] at i1 K
  rw [hb] at i2 ⊢
  have HK := Lib.hid K
  clear hR hF hb K
  go_enter Tryz.func53, Tryz.ntmps53
  go_wp2_with fail
  refine (HK.out _).mono ?_
  rintro e w1 ⟨rfl, hw⟩
  have Hw := Lib.hid hw
  clear hw
  go_wp2_with fail
  go_ret
  exact ⟨rfl, Hw.out⟩

set_option maxHeartbeats 800000 in
theorem may_out (f t : Int) (h : f < 0 ∨ (0 ≤ f ∧ 6 ≤ f) ∨ (0 ≤ f ∧ f < 6 ∧ t < 0) ∨ (0 ≤ f ∧ f < 6 ∧ 0 ≤ t ∧ 6 ≤ t)) (w : World) : Calls Tryz.prog 53 #[.int .i64 f, .int .i64 t] w fun e w' => e = .returned (.bool false) ∧ Ex w w' := by
  rcases h with h1 | ⟨h1, h2⟩ | ⟨h1, h2, h3⟩ | ⟨h1, h2, h3, h4⟩
  all_goals
    go_enter Tryz.func53, Tryz.ntmps53
    go_wp2_with fail
    go_ret
    exact ⟨rfl, Ex.refl _⟩

theorem may_any (f t : Int) (w : World) : Calls Tryz.prog 53 #[.int .i64 f, .int .i64 t] w fun e w' => e = .returned (.bool (mayB f t)) ∧ Ex w w' := by
  by_cases h1 : 0 ≤ f ∧ f < 6 ∧ 0 ≤ t ∧ t < 6
  · exact may_in f t h1.1 h1.2.1 h1.2.2.1 h1.2.2.2 w
  · have e : mayB f t = false := by
      unfold mayB
      exact decide_eq_false (by omega)
    rw [e]
    exact may_out f t (by omega) w

end Go.Proofs.YtmlobpapjfkbmaaGreat.S12

/- Package state: goroutines' states: contracts. -/
namespace Go.Proofs.YtmlobpapjfkbmaaGreat.S12
open Go.RowKit
set_option linter.unusedVariables false
set_option maxRecDepth 20000

def cnt (l : List Nat) (k : Nat) : Value := .int .i64 ((l.count k : Nat) : Int)
def ints (l : List Nat) : List Value := l.map fun n : Nat => Value.int .i64 (n : Int)

/-- Block b holds the states l, whose slice is v. -/
structure St (w : World) (b : Nat) (v : Value) (l : List Nat) : Prop where
  box : Box w b #[v, cnt l 0, cnt l 1, cnt l 2, cnt l 3, cnt l 4, cnt l 5] 101
  row : w.ownsRow (b + 1) 3 1 v l.length (ints l)
  ok : ∀ s ∈ l, 1 ≤ s ∧ s ≤ 5
  len : l.length ≤ 1024

/-- The blocks of it. -/
def Of (b : Nat) (v : Value) (k : Nat) : Prop := k = b ∨ v.ownBlock = some k

theorem St.ex {w w' : World} {b : Nat} {v : Value} {l : List Nat} (h : St w b v l) (k : Ex w w') : St w' b v l :=
  ⟨h.box.ex k, row_chg (F := fun _ => False) h.row (k.chg _) (fun _ _ h => h), h.ok, h.len⟩
theorem St.chg {w w' : World} {b : Nat} {v : Value} {l : List Nat} {F : Nat → Prop} (h : St w b v l) (k : Chg F w w') (hF : ∀ i, Of b v i → ¬ F i) : St w' b v l :=
  ⟨h.box.chg k (hF b (.inl rfl)), row_chg h.row k (fun g hg => hF g (.inr hg)), h.ok, h.len⟩

theorem St.cellk {w : World} {b : Nat} {v : Value} {l : List Nat} (h : St w b v l) (k : Nat) (hk : k ≤ 5) : w.cell? ⟨b, 1 + k, none⟩ = some (.int .i64 ((l.count k : Nat) : Int)) := by
  rw [h.box.cell (1 + k)]
  have hk : k = 0 ∨ k = 1 ∨ k = 2 ∨ k = 3 ∨ k = 4 ∨ k = 5 := by omega
  rcases hk with rfl | rfl | rfl | rfl | rfl | rfl <;> rfl

/-- The slice and its elements. -/
theorem St.slice {w : World} {b : Nat} {v : Value} {l : List Nat} (h : St w b v l) : ∃ a cap, v = .slice a l.length cap ∧ l.length ≤ cap ∧ cap ≤ maxLen ∧
    ∀ j, j < l.length → ∃ g, a = some ⟨g, 0, none⟩ ∧ b < g ∧ g < w.heap.size ∧ w.cell? ⟨g, j, none⟩ = some (.int .i64 (l.getD j 0 : Nat)) ∧ w.frozen? ⟨g, j, none⟩ = false := by
  rcases row_shape h.row with ⟨h1, h2, h3⟩ | ⟨g, cap, rfl, h2, h3, h4, h5⟩
  · exact ⟨none, 0, by rw [h1, h2], by omega, by unfold maxLen; omega, fun j hj => by omega⟩
  · refine ⟨some ⟨g, 0, none⟩, cap, rfl, h4, h5, fun j hj => ⟨g, rfl, by omega, h3, ?_, ?_⟩⟩
    · rw [h.row.cellAt j (by omega)]
      simp [ints, hj]
    · exact h.row.frozenAt j

set_option maxHeartbeats 800000 in
theorem len_any {w : World} {b : Nat} {v : Value} {l : List Nat} (h : St w b v l) :
    Calls Tryz.prog 78 #[.pointer (some ⟨b, 0, none⟩)] w fun e w' => e = .returned (.int .i64 (l.length : Nat)) ∧ w = w' := by
  obtain ⟨a, cap, rfl, h1, h2, -⟩ := h.slice
  have c0 : w.cell? ⟨b, 0, none⟩ = some (.slice a l.length cap) := h.box.cell 0
  clear h
  go_enter Tryz.func78, Tryz.ntmps78
  go_wp2
  go_ret
  exact ⟨rfl, rfl⟩

/-- A goroutine's state; 0: there is none. -/
def ofI (l : List Nat) (g : Int) : Nat := if 0 ≤ g ∧ g < l.length then l.getD g.toNat 0 else 0

set_option maxHeartbeats 800000 in
theorem of_in {w : World} {b : Nat} {v : Value} {l : List Nat} (h : St w b v l) (g : Nat) (hg : g < l.length) (s : Nat) (hs : l.getD g 0 = s) :
    Calls Tryz.prog 48 #[.pointer (some ⟨b, 0, none⟩), .int .i64 g] w fun e w' => e = .returned (.int .i64 (s : Nat)) ∧ w = w' := by
  obtain ⟨a, cap, rfl, h1, h2, hc⟩ := h.slice
  have c0 : w.cell? ⟨b, 0, none⟩ = some (.slice a l.length cap) := h.box.cell 0
  obtain ⟨r, rfl, r1, r2, r3, r4⟩ := hc g hg
  rw [hs] at r3
  have hl := h.len
  clear h hc hs
  go_enter Tryz.func48, Tryz.ntmps48
  go_wp2
  go_ret
  exact ⟨rfl, rfl⟩
theorem of_out {w : World} {b : Nat} {v : Value} {l : List Nat} (h : St w b v l) (g : Int) (hg : g < 0 ∨ (0 ≤ g ∧ (l.length : Int) ≤ g)) :
    Calls Tryz.prog 48 #[.pointer (some ⟨b, 0, none⟩), .int .i64 g] w fun e w' => e = .returned (.int .i64 0) ∧ w = w' := by
  obtain ⟨a, cap, rfl, h1, h2, hc⟩ := h.slice
  have c0 : w.cell? ⟨b, 0, none⟩ = some (.slice a l.length cap) := h.box.cell 0
  have hl := h.len
  clear h hc
  rcases hg with g1 | ⟨g1, g2⟩
  all_goals
    go_enter Tryz.func48, Tryz.ntmps48
    go_wp2
    go_ret
    exact ⟨rfl, rfl⟩

set_option maxHeartbeats 800000 in
theorem count_any {w : World} {b : Nat} {v : Value} {l : List Nat} (h : St w b v l) (k : Nat) (k1 : 1 ≤ k) (k5 : k ≤ 5) :
    Calls Tryz.prog 75 #[.pointer (some ⟨b, 0, none⟩), .int .i64 k] w fun e w' => e = .returned (.int .i64 ((l.count k : Nat) : Int)) ∧ w = w' := by
  have c : w.cell? ⟨b, 1 + k, none⟩ = some (.int .i64 ((l.count k : Nat) : Int)) := by
    rw [h.box.cell (1 + k)]
    have hk : k = 1 ∨ k = 2 ∨ k = 3 ∨ k = 4 ∨ k = 5 := by omega
    rcases hk with rfl | rfl | rfl | rfl | rfl <;> rfl
  clear h
  go_enter Tryz.func75, Tryz.ntmps75
  go_wp2
  go_ret
  exact ⟨rfl, rfl⟩
theorem count_out {w : World} {b : Nat} {v : Value} {l : List Nat} (h : St w b v l) (k : Int) (hk : k ≤ 0 ∨ (0 < k ∧ 5 < k)) :
    Calls Tryz.prog 75 #[.pointer (some ⟨b, 0, none⟩), .int .i64 k] w fun e w' => e = .returned (.int .i64 0) ∧ w = w' := by
  rcases hk with k1 | ⟨k1, k2⟩
  all_goals
    go_enter Tryz.func75, Tryz.ntmps75
    go_wp2
    go_ret
    exact ⟨rfl, rfl⟩

end Go.Proofs.YtmlobpapjfkbmaaGreat.S12

/- Package state: what turns goroutines' states: contracts. -/
namespace Go.Proofs.YtmlobpapjfkbmaaGreat.S12
open Go.RowKit
set_option linter.unusedVariables false
set_option maxRecDepth 20000

/-- Behind an operation: the states are l', in the old blocks and new ones. -/
def Nxt (w : World) (b : Nat) (v : Value) (l' : List Nat) (w' : World) : Prop :=
  ∃ v', St w' b v' l' ∧ Chg (Of b v) w w' ∧ ∀ k, v'.ownBlock = some k → v.ownBlock = some k ∨ w.heap.size ≤ k

theorem info_int : (Tryz.prog.info? 3).map (fun i => (i.zero, i.size, i.bytes)) = some (some (.int .i64 0), 1, 8) := by kernel_rfl

theorem ints_app (l : List Nat) (n : Nat) : ints l ++ [.int .i64 (n : Int)] = ints (l ++ [n]) := by simp [ints]

theorem cnt_app (l : List Nat) (n k : Nat) : (l ++ [n]).count k = l.count k + (if n = k then 1 else 0) := by
  rw [List.count_append]
  congr 1
  by_cases h : n = k
  · subst h; simp
  · simp [h]

/-- What Spawn leaves. -/
theorem spawn_next {w w1 : World} {b : Nat} {v v' : Value} {l : List Nat} {m : Nat} (h : St w b v l) (hl : l.length < 1024) (cs : Array Value)
    (hown : w1.ownsRow (b + 1) 3 1 v' (l.length + 1) (ints (l ++ [1]))) (hg : (w.alloc (.cells cs 3)).grownBy w1 v.ownBlock) (hv : ∀ k, v'.ownBlock = some k → v.ownBlock = some k ∨ w.heap.size < k) :
    Nxt w b v (l ++ [1]) (((w1.setCell ⟨b, 0, none⟩ v').setCell ⟨b, 2, none⟩ (.int .i64 ((l.count 1 : Nat) + 1))).drewN m) := by
  have hb := h.box.lt
  have hne : v.ownBlock ≠ some b := by
    intro e
    rcases row_shape h.row with ⟨h1, _⟩ | ⟨g, cap, rfl, h2, _⟩
    · rw [h1] at e; cases e
    · simp only [Value.ownBlock, Option.some.injEq] at e; omega
  have hne' : v'.ownBlock ≠ some b := by
    intro e
    rcases row_shape hown with ⟨h1, _⟩ | ⟨g, cap, rfl, h2, _⟩
    · rw [h1] at e; cases e
    · simp only [Value.ownBlock, Option.some.injEq] at e; omega
  have hC : Chg (Of b v) w w1 := (Ex.made w (.cells cs 3)).chg (Of b v) |>.trans (Chg.grown (F := Of b v) hg (fun i hi => .inr hi)) (fun i _ hi => hi)
  have hB : Box w1 b #[v, cnt l 0, cnt l 1, cnt l 2, cnt l 3, cnt l 4, cnt l 5] 101 := by
    have h1 := h.box.ex (Ex.made w (.cells cs 3))
    exact (hg.block b (by simp; omega) (fun e => hne e.symm)).trans h1
  refine ⟨v', ⟨?_, ?_, ?_, ?_⟩, ?_, ?_⟩
  · have := ((hB.put 0 v').put 2 (.int .i64 ((l.count 1 : Nat) + 1))).drew m
    have e : ∀ k, k ≠ 1 → cnt (l ++ [1]) k = cnt l k := by
      intro k hk
      simp [cnt, Ne.symm hk]
    have e1 : cnt (l ++ [1]) 1 = .int .i64 ((l.count 1 : Nat) + 1) := by simp [cnt]
    rw [e 0 (by omega), e1, e 2 (by omega), e 3 (by omega), e 4 (by omega), e 5 (by omega)]
    exact this
  · have := ownsRow_setCell_other (ownsRow_setCell_other hown (a := ⟨b, 0, none⟩) hne' v') (a := ⟨b, 2, none⟩) hne' (.int .i64 ((l.count 1 : Nat) + 1))
    have e : (l ++ [1]).length = l.length + 1 := by simp
    rw [e]
    exact this
  · intro s hs
    rcases List.mem_append.1 hs with h1 | h1
    · exact h.ok s h1
    · simp at h1; omega
  · simp; omega
  · exact ((hC.trans (Chg.cell (F := Of b v) w1 ⟨b, 0, none⟩ v' (.inl rfl)) (fun i _ hi => hi)).trans (Chg.cell (F := Of b v) _ ⟨b, 2, none⟩ _ (.inl rfl)) (fun i _ hi => hi)).drew m
  · intro k hk
    rcases hv k hk with h1 | h1
    · exact .inl h1
    · exact .inr (by omega)

theorem spawn_cells {w w1 : World} {b : Nat} {a : Option Addr} {cap n : Nat} {l : List Nat} {x : Value} {t : TypeId} (h : St w b (.slice a l.length cap) l) (hn : l.length = n) (hg : (w.alloc (.cells #[x] t)).grownBy w1 (Value.slice a n cap).ownBlock) :
    w1.cell? ⟨b, 0, none⟩ = some (.slice a n cap) ∧ w1.cell? ⟨b, 2, none⟩ = some (.int .i64 ((l.count 1 : Nat) : Int)) ∧ w1.frozen? ⟨b, 0, none⟩ = false ∧ w1.frozen? ⟨b, 2, none⟩ = false := by
  have hB : Box w1 b #[.slice a l.length cap, cnt l 0, cnt l 1, cnt l 2, cnt l 3, cnt l 4, cnt l 5] 101 := by
    have hlt := h.box.lt
    refine (hg.block b (by simp; omega) (fun e => ?_)).trans (h.box.ex (Ex.made w _))
    rcases row_shape h.row with ⟨h1, _⟩ | ⟨g, cap, h1, h2, _⟩
    · injection h1 with h1
      rw [h1] at e; cases e
    · injection h1 with h1
      rw [h1] at e
      simp only [Value.ownBlock, Option.some.injEq] at e; omega
  rw [← hn]
  exact ⟨hB.cell 0, hB.cell 2, hB.soft 0, hB.soft 2⟩

set_option maxRecDepth 10000 in
set_option maxHeartbeats 1600000 in
theorem spawn_any {w : World} {b : Nat} {v : Value} {l : List Nat} (h : St w b v l) (hl : l.length < 1024) :
    Calls Tryz.prog 50 #[.pointer (some ⟨b, 0, none⟩)] w fun e w' => e = .returned (.tuple #[.int .i64 (l.length : Nat), .int .i64 0]) ∧ Nxt w b v (l ++ [1]) w' := by
  obtain ⟨i0, hi, hz0, hz1, hz2⟩ := info_parts info_int
  have hrow := h.row
  have H := Lib.hid h
  obtain ⟨a, cap, rfl, h1, h2, -⟩ := h.slice
  have c0 : w.cell? ⟨b, 0, none⟩ = some (.slice a l.length cap) := h.box.cell 0
  have hb := h.box.lt
  obtain ⟨n, hn⟩ : ∃ n, l.length = n := ⟨_, rfl⟩
  obtain ⟨L, hL⟩ : ∃ L, ints l = L := ⟨_, rfl⟩
  rw [hn] at hl h1 c0 hrow ⊢
  rw [hL] at hrow
  have Hn := Lib.hid hn
  have HL := Lib.hid hL
  have HR := Lib.hid hrow
  clear h hn hL hrow
  go_enter Tryz.func50, Tryz.ntmps50
  go_wp2_with (at_builtin; refine wpList_append_mine _ rfl (.tmp 18) (.tmp 19) 37 rfl (b + 1) 3 i0 (.int .i64 0) 1 8 Tryz.underlying37 hi hz0 hz1 hz2 rfl (by decide) _ _ _ rfl (HR.out.alloc _) ⟨w.heap.size, 0, none⟩ 1 1 [.int .i64 1] rfl rfl (one_new _ _ _) (one_cell rfl) (by unfold maxLen; omega) (by omega) (row_alloc_base w _ (by omega)) (by omega) ?_)
  intro g' cap' w1 hown hg hor hbg hlt hc1 hc2
  obtain ⟨d0, d2, f0, f2⟩ := spawn_cells H.out Hn.out hg
  have HO := Lib.hid hown
  have HG := Lib.hid hg
  have HOR := Lib.hid hor
  have hcl : ((l.count 1 : Nat) : Int) ≤ 1024 := by
    have := List.count_le_length (a := 1) (l := l)
    have := H.out.len
    omega
  have hcl0 : (0 : Int) ≤ ((l.count 1 : Nat) : Int) := by omega
  obtain ⟨c, hc⟩ : ∃ c : Nat, l.count 1 = c := ⟨_, rfl⟩
  rw [hc] at hcl hcl0 d2
  have HC := Lib.hid hc
  clear hown hg hor hc
  go_wp2
  go_region
  go_wp2
  go_ret2
  refine ⟨rfl, ?_⟩
  have e1 : ints (l ++ [1]) = L ++ [.int .i64 1] := by rw [← HL.out]; exact (ints_app l 1).symm
  have := spawn_next (m := 1) H.out (by rw [Hn.out]; exact hl) #[.int .i64 1] (by rw [Hn.out, e1]; exact HO.out) (by rw [Hn.out]; exact HG.out) (fun k hk => by
    simp only [Value.ownBlock, Option.some.injEq] at hk
    subst hk
    rw [Hn.out]
    exact HOR.out.imp id (fun h => by omega))
  rw [HC.out, Hn.out] at this
  exact this

end Go.Proofs.YtmlobpapjfkbmaaGreat.S12

/- Package state: Move: contracts. -/
namespace Go.Proofs.YtmlobpapjfkbmaaGreat.S12
open Go.RowKit
set_option linter.unusedVariables false
set_option maxRecDepth 20000

theorem may_pairs {s t : Nat} (h : mayB s t = true) : (s = 1 ∧ t = 2) ∨ (s = 2 ∧ t = 1) ∨ (s = 2 ∧ t = 3) ∨ (s = 2 ∧ t = 4) ∨ (s = 2 ∧ t = 5) ∨ (s = 3 ∧ t = 1) ∨ (s = 4 ∧ t = 1) := by
  unfold mayB at h
  have := of_decide_eq_true h
  omega

theorem count_move {l : List Nat} {g s t : Nat} (hg : g < l.length) (hs : l.getD g 0 = s) (hst : s ≠ t) (k : Nat) :
    ((l.set g t).count k : Int) = (l.count k : Int) - (if s = k then 1 else 0) + (if t = k then 1 else 0) := by
  have hgs : l[g] = s := by rw [← hs]; simp [hg]
  rw [List.count_set hg, hgs]
  have hpos : s = k → 0 < l.count k := by
    intro e
    rw [← e, ← hgs]
    exact List.count_pos_iff.2 (List.getElem_mem hg)
  by_cases h1 : s = k
  · have := hpos h1
    have h2 : ¬ t = k := by omega
    simp [h1, h2]; omega
  · by_cases h2 : t = k <;> simp [h1, h2]

theorem move_next {w w1 : World} {b r cap : Nat} {l : List Nat} {g s t : Nat} {m : Nat} (h : St w b (.slice (some ⟨r, 0, none⟩) l.length cap) l) (hx : Ex w w1) (hg : g < l.length) (hs : l.getD g 0 = s) (hm : mayB s t = true) :
    Nxt w b (.slice (some ⟨r, 0, none⟩) l.length cap) (l.set g t)
      ((((w1.setCell ⟨b, 1 + s, none⟩ (.int .i64 ((l.count s : Nat) - 1))).setCell ⟨b, 1 + t, none⟩ (.int .i64 ((l.count t : Nat) + 1))).setCell ⟨r, g, none⟩ (.int .i64 (t : Nat))).drewN m) := by
  have h1 := h.ex hx
  have hp := may_pairs hm
  have hbr : b < r := by
    rcases row_shape h.row with ⟨h1, _⟩ | ⟨r', cap', h1, h2, _⟩
    · cases h1
    · cases h1; omega
  have hC : Chg (Of b (.slice (some ⟨r, 0, none⟩) l.length cap)) w w1 := hx.chg _
  refine ⟨_, ⟨?_, ?_, ?_, ?_⟩, ?_, fun k hk => .inl hk⟩
  · have hB := (((h1.box.put (1 + s) (.int .i64 ((l.count s : Nat) - 1))).put (1 + t) (.int .i64 ((l.count t : Nat) + 1))).put_other (b := r) (by omega) g (.int .i64 (t : Nat))).drew m
    have e := fun k => count_move (t := t) hg hs (by omega) k
    have e' : ∀ k, cnt (l.set g t) k = .int .i64 ((l.count k : Int) - (if s = k then 1 else 0) + (if t = k then 1 else 0)) := fun k => congrArg (Value.int .i64) (e k)
    rw [e' 0, e' 1, e' 2, e' 3, e' 4, e' 5]
    rcases hp with ⟨rfl, rfl⟩ | ⟨rfl, rfl⟩ | ⟨rfl, rfl⟩ | ⟨rfl, rfl⟩ | ⟨rfl, rfl⟩ | ⟨rfl, rfl⟩ | ⟨rfl, rfl⟩
    all_goals simpa [cnt] using hB
  · have h2 := ownsRow_setCell_other (ownsRow_setCell_other h1.row (a := ⟨b, 1 + s, none⟩) (by simp [Value.ownBlock]; omega) (.int .i64 ((l.count s : Nat) - 1))) (a := ⟨b, 1 + t, none⟩) (by simp [Value.ownBlock]; omega) (.int .i64 ((l.count t : Nat) + 1))
    have h3 := (h2.stored g (.int .i64 (t : Nat))).1
    have e : ints (l.set g t) = (ints l).set g (.int .i64 (t : Nat)) := by simp [ints, List.map_set]
    rw [e, List.length_set]
    exact h3
  · intro x hx'
    rcases List.mem_or_eq_of_mem_set hx' with h2 | h2
    · exact h.ok x h2
    · omega
  · rw [List.length_set]; exact h.len
  · exact (((hC.trans (Chg.cell _ ⟨b, 1 + s, none⟩ _ (.inl rfl)) (fun i _ hi => hi)).trans (Chg.cell (F := Of b (.slice (some ⟨r, 0, none⟩) l.length cap)) _ ⟨b, 1 + t, none⟩ _ (.inl rfl)) (fun i _ hi => hi)).trans
      (Chg.cell (F := Of b (.slice (some ⟨r, 0, none⟩) l.length cap)) _ ⟨r, g, none⟩ _ (.inr rfl)) (fun i _ hi => hi)).drew m

set_option maxRecDepth 10000 in
set_option maxHeartbeats 1600000 in
theorem move_yes {w : World} {b : Nat} {v : Value} {l : List Nat} (h : St w b v l) (g : Nat) (hg : g < l.length) (s t : Nat) (hs : l.getD g 0 = s) (hm : mayB s t = true) :
    Calls Tryz.prog 26 #[.pointer (some ⟨b, 0, none⟩), .int .i64 g, .int .i64 t] w fun e w' => e = .returned (.int .i64 0) ∧ Nxt w b v (l.set g t) w' := by
  obtain ⟨a, cap, rfl, h1, h2, hc⟩ := h.slice
  obtain ⟨r, rfl, r1, r2, r3, r4⟩ := hc g hg
  have hp := may_pairs hm
  have b1 : 1 ≤ s ∧ s ≤ 5 ∧ 1 ≤ t ∧ t ≤ 5 ∧ s ≠ t := by omega
  have c0 : w.cell? ⟨b, 0, none⟩ = some (.slice (some ⟨r, 0, none⟩) l.length cap) := h.box.cell 0
  have K1 := Lib.hid (of_in h g hg s hs)
  have K2 := Lib.hid (fun w => may_any (s : Nat) (t : Nat) w)
  rw [hm] at K2
  have H := Lib.hid h
  have HS := Lib.hid hs
  have HM := Lib.hid hm
  have hl := h.len
  rw [hs] at r3
  clear h hc hs hm hp
  obtain ⟨b1, b2, b3, b4, b5⟩ := b1
  go_enter Tryz.func26, Tryz.ntmps26
  go_wp2_with fail
  refine K1.out.mono ?_
  rintro e w' ⟨rfl, rfl⟩
  go_wp2_with fail
  refine (K2.out _).mono ?_
  rintro e w1 ⟨rfl, hw⟩
  have h1' := H.out.ex hw
  have d0 : w1.cell? ⟨b, 0, none⟩ = some (.slice (some ⟨r, 0, none⟩) l.length cap) := h1'.box.cell 0
  have ds : w1.cell? ⟨b, 1 + s, none⟩ = some (.int .i64 ((l.count s : Nat) : Int)) := h1'.cellk s (by omega)
  have dt : w1.cell? ⟨b, 1 + t, none⟩ = some (.int .i64 ((l.count t : Nat) : Int)) := h1'.cellk t (by omega)
  have fs := h1'.box.soft (1 + s)
  have ft := h1'.box.soft (1 + t)
  have dr : w1.cell? ⟨r, g, none⟩ = some (.int .i64 (s : Nat)) := (hw.cell (p := ⟨r, g, none⟩) r2).trans r3
  have fr : w1.frozen? ⟨r, g, none⟩ = false := (hw.frozen (p := ⟨r, g, none⟩) r2).trans r4
  have q1 : ((l.count s : Nat) : Int) ≤ 1024 := by have := List.count_le_length (a := s) (l := l); omega
  have q2 : ((l.count t : Nat) : Int) ≤ 1024 := by have := List.count_le_length (a := t) (l := l); omega
  have q3 : (0 : Int) ≤ ((l.count s : Nat) : Int) := by omega
  have q4 : (0 : Int) ≤ ((l.count t : Nat) : Int) := by omega
  obtain ⟨cs, hcs⟩ : ∃ c : Nat, l.count s = c := ⟨_, rfl⟩
  obtain ⟨ct, hct⟩ : ∃ c : Nat, l.count t = c := ⟨_, rfl⟩
  rw [hcs] at ds q1 q3
  rw [hct] at dt q2 q4
  have HW := Lib.hid hw
  have HCS := Lib.hid hcs
  have HCT := Lib.hid hct
  clear hw h1' hcs hct
  go_wp2_with fail
  go_region
  go_wp2_with fail
  go_region
  go_wp2_with fail
  go_ret
  refine ⟨rfl, ?_⟩
  have := move_next (m := 2) H.out HW.out hg HS.out HM.out
  rw [HCS.out, HCT.out] at this
  exact this

set_option maxRecDepth 10000 in
set_option maxHeartbeats 1600000 in
theorem move_no {w : World} {b : Nat} {v : Value} {l : List Nat} (h : St w b v l) (g : Nat) (hg : g < l.length) (s : Nat) (t : Int) (hs : l.getD g 0 = s) (hm : mayB s t = false) :
    Calls Tryz.prog 26 #[.pointer (some ⟨b, 0, none⟩), .int .i64 g, .int .i64 t] w fun e w' => e = .returned (.int .i64 5) ∧ Ex w w' := by
  obtain ⟨a, cap, rfl, h1, h2, hc⟩ := h.slice
  obtain ⟨r, rfl, r1, r2, r3, r4⟩ := hc g hg
  have c0 : w.cell? ⟨b, 0, none⟩ = some (.slice (some ⟨r, 0, none⟩) l.length cap) := h.box.cell 0
  have K1 := Lib.hid (of_in h g hg s hs)
  have K2 := Lib.hid (fun w => may_any (s : Nat) t w)
  rw [hm] at K2
  have hl := h.len
  have b1 : 1 ≤ s := by
    have : l[g] ∈ l := List.getElem_mem hg
    have e : l[g] = s := by rw [← hs]; simp [hg]
    rw [e] at this
    exact (h.ok s this).1
  rw [hs] at r3
  clear h hc hs hm
  go_enter Tryz.func26, Tryz.ntmps26
  go_wp2_with fail
  refine K1.out.mono ?_
  rintro e w' ⟨rfl, rfl⟩
  go_wp2_with fail
  refine (K2.out _).mono ?_
  rintro e w1 ⟨rfl, hw⟩
  have HW := Lib.hid hw
  clear hw
  go_wp2_with fail
  go_ret
  exact ⟨rfl, HW.out⟩

set_option maxHeartbeats 800000 in
theorem move_none {w : World} {b : Nat} {v : Value} {l : List Nat} (h : St w b v l) (g t : Int) (hg : g < 0 ∨ (0 ≤ g ∧ (l.length : Int) ≤ g)) :
    Calls Tryz.prog 26 #[.pointer (some ⟨b, 0, none⟩), .int .i64 g, .int .i64 t] w fun e w' => e = .returned (.int .i64 4) ∧ w = w' := by
  have K1 := Lib.hid (of_out h g hg)
  clear h hg
  go_enter Tryz.func26, Tryz.ntmps26
  go_wp2_with fail
  refine K1.out.mono ?_
  rintro e w' ⟨rfl, rfl⟩
  go_wp2_with fail
  go_ret
  exact ⟨rfl, rfl⟩

theorem new_any (w : World) : Calls Tryz.prog 20 #[] w fun e w' => e = .returned (.pointer (some ⟨w.heap.size, 0, none⟩)) ∧ St w' w.heap.size (.slice none 0 0) [] ∧ Ex w w' ∧ w'.heap.size = w.heap.size + 1 := by
  go_enter Tryz.func20, Tryz.ntmps20
  go_wp2
  go_ret
  exact ⟨rfl, ⟨Box.fresh _ _ _, World.ownsRow_nil _ _ _ _, by simp, by simp⟩, Ex.made _ _, by simp⟩

theorem spawn_nil (w : World) : Calls Tryz.prog 50 #[.pointer none] w fun e w' => e = .returned (.tuple #[.int .i64 0, .int .i64 1]) ∧ w = w' := by
  go_enter Tryz.func50, Tryz.ntmps50
  go_wp2
  go_ret2
  exact ⟨rfl, rfl⟩
theorem of_nil (w : World) : Calls Tryz.prog 48 #[.pointer none, .int .i64 0] w fun e w' => e = .returned (.int .i64 0) ∧ w = w' := by
  go_enter Tryz.func48, Tryz.ntmps48
  go_wp2
  go_ret
  exact ⟨rfl, rfl⟩
theorem len_nil (w : World) : Calls Tryz.prog 78 #[.pointer none] w fun e w' => e = .returned (.int .i64 0) ∧ w = w' := by
  go_enter Tryz.func78, Tryz.ntmps78
  go_wp2
  go_ret
  exact ⟨rfl, rfl⟩
set_option maxRecDepth 10000 in
theorem spawn_full {w : World} {b : Nat} {v : Value} {l : List Nat} (h : St w b v l) (hl : 1024 ≤ l.length) :
    Calls Tryz.prog 50 #[.pointer (some ⟨b, 0, none⟩)] w fun e w' => e = .returned (.tuple #[.int .i64 0, .int .i64 3]) ∧ w = w' := by
  obtain ⟨a, cap, rfl, h1, h2, -⟩ := h.slice
  have c0 : w.cell? ⟨b, 0, none⟩ = some (.slice a l.length cap) := h.box.cell 0
  clear h
  go_enter Tryz.func50, Tryz.ntmps50
  go_wp2
  go_ret2
  exact ⟨rfl, rfl⟩

end Go.Proofs.YtmlobpapjfkbmaaGreat.S12

/- Package state: Alive: its contract. -/
namespace Go.Proofs.YtmlobpapjfkbmaaGreat.S12
open Go.RowKit
set_option linter.unusedVariables false
set_option maxRecDepth 20000

/-- Those of the first k that are not dead. -/
def aliveTo (l : List Nat) (k : Nat) : List Nat := (List.range k).filter fun j => l.getD j 0 != 5
theorem alive_hit {l : List Nat} {k : Nat} (h : l.getD k 0 ≠ 5) : aliveTo l (k + 1) = aliveTo l k ++ [k] := by
  simp only [aliveTo, List.range_succ, List.filter_append]
  congr 1
  simp only [List.filter_cons, List.filter_nil]
  rw [if_pos (by simpa using h)]
theorem alive_miss {l : List Nat} {k : Nat} (h : l.getD k 0 = 5) : aliveTo l (k + 1) = aliveTo l k := by
  simp only [aliveTo, List.range_succ, List.filter_append, List.filter_cons, List.filter_nil]
  rw [if_neg (by simpa using h), List.append_nil]
theorem alive_le (l : List Nat) (k : Nat) : (aliveTo l k).length ≤ k := by
  have := List.length_filter_le (fun j => l.getD j 0 != 5) (List.range k)
  simpa [aliveTo] using this

def AliveIs (w : World) (l : List Nat) (e : Ending) (w' : World) : Prop :=
  ∃ v, e = .returned v ∧ w'.ownsRow w.heap.size 3 1 v (aliveTo l l.length).length (ints (aliveTo l l.length)) ∧ Ex w w'

theorem ex_grown {w w' : World} {B : Nat} {v : Value} {E : TypeId} {n : Nat} {xs : List Value} (h : w.ownsRow B E 1 v n xs) {W0 : World} (hB : Below B W0 w) (hs : B ≤ w.heap.size) (hg : w.grownBy w' v.ownBlock) : Below B W0 w' :=
  hB.grown hg hs fun k hk => (h.lt k hk).1

set_option maxRecDepth 10000 in
set_option maxHeartbeats 1600000 in
theorem alive_any {w : World} {b : Nat} {v : Value} {l : List Nat} (h : St w b v l) :
    Calls Tryz.prog 47 #[.pointer (some ⟨b, 0, none⟩)] w (AliveIs w l) := by
  obtain ⟨i0, hi, hz0, hz1, hz2⟩ := info_parts info_int
  obtain ⟨a, cap, rfl, h1, h2, -⟩ := h.slice
  have c0 : w.cell? ⟨b, 0, none⟩ = some (.slice a l.length cap) := h.box.cell 0
  have K1 := Lib.hid (len_any h)
  have H := Lib.hid h
  have hl := h.len
  have hb := h.box.lt
  clear h
  go_enter Tryz.func47, Tryz.ntmps47
  go_wp2_with fail
  refine K1.out.mono ?_
  rintro e w' ⟨rfl, rfl⟩
  go_wp2_with fail
  go_loopw [3, 7] (fun v i wr => ∃ k : Nat, k ≤ l.length ∧ i = .int .i64 k ∧ wr.ownsRow w.heap.size 3 1 v (aliveTo l k).length (ints (aliveTo l k)) ∧ Ex w wr) (fun _ i _ => l.length - (intOf i).toNat)
  case atStart => exact ⟨0, Nat.zero_le _, rfl, World.ownsRow_nil _ _ _ _, Ex.refl _⟩
  case round =>
    obtain ⟨k, hk, rfl, hown, hx⟩ := hrel
    have HX := Lib.hid hx
    have HO := Lib.hid hown
    clear hown hx
    by_cases hlt : k < l.length
    · have h' := H.out.ex HX.out
      obtain ⟨a', cap', e1, -, -, hc⟩ := h'.slice
      injection e1 with e1 _ e2
      subst e1; subst e2
      obtain ⟨r, rfl, r1, r2, r3, r4⟩ := hc k hlt
      have d0 : wr.cell? ⟨b, 0, none⟩ = some (.slice (some ⟨r, 0, none⟩) l.length cap) := h'.box.cell 0
      obtain ⟨s, hs⟩ : ∃ s, l.getD k 0 = s := ⟨_, rfl⟩
      rw [hs] at r3
      have HS := Lib.hid hs
      have hal := alive_le l k
      clear h' hc hs c0
      by_cases h5 : s = 5
      · subst h5
        go_wp2
        go_roundw
        case rel => exact ⟨k + 1, by omega, by go_num, by rw [alive_miss HS.out]; exact HO.out, HX.out⟩
        case measure => simp [intOf]; omega
      · have h5' : ((s : Int) != 5) = true := by simp; omega
        go_wp2_with (at_builtin; refine wpList_append_mine _ rfl (.tmp 18) (.tmp 20) 37 rfl w.heap.size 3 i0 (.int .i64 0) 1 8 Tryz.underlying37 hi hz0 hz1 hz2 rfl (by decide) _ _ _ rfl (HO.out.alloc _) ⟨wr.heap.size, 0, none⟩ 1 1 [.int .i64 k] rfl rfl (one_new _ _ _) (one_cell rfl) (by unfold maxLen; omega) (by omega) (row_alloc_base wr _ HX.out.size) (by omega) ?_)
        intro g' cap' w1 hown hg hor hbg hlt' hc1 hc2
        have HO1 := Lib.hid hown
        have HX1 := Lib.hid (ex_grown (HO.out.alloc _) (Below.alloc HX.out HX.out.size _) (row_alloc_base wr _ HX.out.size) hg)
        clear hown hg hor
        go_wp2
        go_roundw
        case rel =>
          refine ⟨k + 1, by omega, by go_num, ?_, HX1.out⟩
          rw [alive_hit (by rw [HS.out]; exact h5), List.length_append, ← ints_app]
          exact HO1.out
        case measure => simp [intOf]; omega
    · obtain rfl : k = l.length := by omega
      have e1 : ¬ ((l.length : Int) < (l.length : Int)) := by omega
      go_wp2
      go_ret
      exact ⟨_, rfl, HO.out, HX.out⟩

end Go.Proofs.YtmlobpapjfkbmaaGreat.S12

