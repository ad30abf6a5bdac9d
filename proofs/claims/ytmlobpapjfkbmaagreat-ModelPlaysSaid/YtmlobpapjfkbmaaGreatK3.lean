/- Part 3 of what is proved of the program of layer 16: Time13, Swap13, Meth13, Up13, Down13, HeapLaw13, Push13. -/
import Derived.Test.YtmlobpapjfkbmaaGreatK1
import Derived.LoopN
import Derived.Outline
import Derived.Deep.Cut
import Derived.StillTailTactics
import Derived.Great.Walk
import Derived.Deep.AppendLies
import Derived.Deep.RegionLaw
/- Package timer: order. -/
namespace Go.Proofs.YtmlobpapjfkbmaaGreat.T13
open Go.RowKit
set_option linter.unusedVariables false
set_option maxRecDepth 20000

def cmpI (x y : Int) : Int := if x < y then -1 else if y < x then 1 else 0

set_option maxHeartbeats 800000 in
theorem nan64 (w : World) (x : Int) : Calls Tryz.prog 118 #[.int .i64 x] w fun e w' => e = .returned (.bool false) ∧ w = w' := by
  go_enter Tryz.func118, Tryz.ntmps118
  go_wp2
  go_ret
  exact ⟨by simp, rfl⟩

set_option maxHeartbeats 800000 in
theorem nani (w : World) (x : Int) : Calls Tryz.prog 119 #[.int .i64 x] w fun e w' => e = .returned (.bool false) ∧ w = w' := by
  go_enter Tryz.func119, Tryz.ntmps119
  go_wp2
  go_ret
  exact ⟨by simp, rfl⟩

set_option maxHeartbeats 1600000 in
theorem compare64 (w : World) (x y : Int) : Calls Tryz.prog 116 #[.int .i64 x, .int .i64 y] w fun e w' => e = .returned (.int .i64 (cmpI x y)) ∧ w = w' := by
  have key : ∀ z, cmpI x y = z → Calls Tryz.prog 116 #[.int .i64 x, .int .i64 y] w fun e w' => e = .returned (.int .i64 z) ∧ w = w' := by
    intro z hz
    unfold cmpI at hz
    by_cases h1 : x < y
    · rw [if_pos h1] at hz
      subst hz
      go_enter Tryz.func116, Tryz.ntmps116
      go_wp2_with fail
      refine (nan64 w x).mono ?_
      rintro e w' ⟨rfl, rfl⟩
      go_wp2_with fail
      refine (nan64 w y).mono ?_
      rintro e w' ⟨rfl, rfl⟩
      go_wp2
      go_ret
      exact ⟨rfl, rfl⟩
    · rw [if_neg h1] at hz
      by_cases h2 : y < x
      · rw [if_pos h2] at hz
        subst hz
        go_enter Tryz.func116, Tryz.ntmps116
        go_wp2_with fail
        refine (nan64 w x).mono ?_
        rintro e w' ⟨rfl, rfl⟩
        go_wp2_with fail
        refine (nan64 w y).mono ?_
        rintro e w' ⟨rfl, rfl⟩
        go_wp2
        go_ret
        exact ⟨rfl, rfl⟩
      · rw [if_neg h2] at hz
        subst hz
        go_enter Tryz.func116, Tryz.ntmps116
        go_wp2_with fail
        refine (nan64 w x).mono ?_
        rintro e w' ⟨rfl, rfl⟩
        go_wp2_with fail
        refine (nan64 w y).mono ?_
        rintro e w' ⟨rfl, rfl⟩
        go_wp2
        go_ret
        exact ⟨rfl, rfl⟩
  exact key _ rfl

set_option maxHeartbeats 1600000 in
theorem comparei (w : World) (x y : Int) : Calls Tryz.prog 117 #[.int .i64 x, .int .i64 y] w fun e w' => e = .returned (.int .i64 (cmpI x y)) ∧ w = w' := by
  have key : ∀ z, cmpI x y = z → Calls Tryz.prog 117 #[.int .i64 x, .int .i64 y] w fun e w' => e = .returned (.int .i64 z) ∧ w = w' := by
    intro z hz
    unfold cmpI at hz
    by_cases h1 : x < y
    · rw [if_pos h1] at hz
      subst hz
      go_enter Tryz.func117, Tryz.ntmps117
      go_wp2_with fail
      refine (nani w x).mono ?_
      rintro e w' ⟨rfl, rfl⟩
      go_wp2_with fail
      refine (nani w y).mono ?_
      rintro e w' ⟨rfl, rfl⟩
      go_wp2
      go_ret
      exact ⟨rfl, rfl⟩
    · rw [if_neg h1] at hz
      by_cases h2 : y < x
      · rw [if_pos h2] at hz
        subst hz
        go_enter Tryz.func117, Tryz.ntmps117
        go_wp2_with fail
        refine (nani w x).mono ?_
        rintro e w' ⟨rfl, rfl⟩
        go_wp2_with fail
        refine (nani w y).mono ?_
        rintro e w' ⟨rfl, rfl⟩
        go_wp2
        go_ret
        exact ⟨rfl, rfl⟩
      · rw [if_neg h2] at hz
        subst hz
        go_enter Tryz.func117, Tryz.ntmps117
        go_wp2_with fail
        refine (nani w x).mono ?_
        rintro e w' ⟨rfl, rfl⟩
        go_wp2_with fail
        refine (nani w y).mono ?_
        rintro e w' ⟨rfl, rfl⟩
        go_wp2
        go_ret
        exact ⟨rfl, rfl⟩
  exact key _ rfl

set_option maxHeartbeats 1600000 in
theorem or_two (w : World) (x y : Int) (b : Nat) (c0 : w.cell? ⟨b, 0, none⟩ = some (.int .i64 x)) (c1 : w.cell? ⟨b, 1, none⟩ = some (.int .i64 y)) :
    Calls Tryz.prog 115 #[.slice (some ⟨b, 0, none⟩) 2 2] w fun e w' => e = .returned (.int .i64 (if x = 0 then y else x)) ∧ w = w' := by
  have key : ∀ z, (if x = 0 then y else x) = z → Calls Tryz.prog 115 #[.slice (some ⟨b, 0, none⟩) 2 2] w fun e w' => e = .returned (.int .i64 z) ∧ w = w' := by
    intro z hz
    by_cases h1 : x = 0
    · rw [if_pos h1] at hz
      subst h1 hz
      by_cases h2 : y = 0
      · subst h2
        go_enter Tryz.func115, Tryz.ntmps115
        go_wp2_with fail
        refine wp_loop_rounds 3 ?_; rw [rounds_succ]
        go_wp2_with fail
        rw [rounds_succ]
        go_wp2_with fail
        rw [rounds_succ]
        go_wp2_with fail
        go_ret
        exact ⟨rfl, rfl⟩
      · have h3 : (y == 0) = false := by simpa using h2
        go_enter Tryz.func115, Tryz.ntmps115
        go_wp2_with fail
        refine wp_loop_rounds 3 ?_; rw [rounds_succ]
        go_wp2_with fail
        rw [rounds_succ]
        go_wp2_with fail
        go_ret
        exact ⟨rfl, rfl⟩
    · rw [if_neg h1] at hz
      subst hz
      have h3 : (x == 0) = false := by simpa using h1
      go_enter Tryz.func115, Tryz.ntmps115
      go_wp2_with fail
      refine wp_loop_rounds 3 ?_; rw [rounds_succ]
      go_wp2_with fail
      go_ret
      exact ⟨rfl, rfl⟩
  exact key _ rfl

/-- One sleeper's three cells. -/
def sl (p : Int × Int × Int) : Value := .agg #[.int .i64 p.1, .int .i64 p.2.1, .int .i64 p.2.2]
def ord (p q : Int × Int × Int) : Int := if cmpI p.1 q.1 = 0 then cmpI p.2.2 q.2.2 else cmpI p.1 q.1

set_option maxHeartbeats 1600000 in
theorem order_any (w : World) (p q : Int × Int × Int) : Calls Tryz.prog 114 #[.agg #[.int .i64 p.1, .int .i64 p.2.1, .int .i64 p.2.2], .agg #[.int .i64 q.1, .int .i64 q.2.1, .int .i64 q.2.2]] w fun e w' => e = .returned (.int .i64 (ord p q)) ∧ Ex w w' := by
  obtain ⟨p1, p2, p3⟩ := p
  obtain ⟨q1, q2, q3⟩ := q
  go_enter Tryz.func114, Tryz.ntmps114
  go_upto_region 1 with fail
  have e0 : Ex w ((w.alloc (.cells #[.int .i64 p1, .int .i64 p2, .int .i64 p3] 113)).alloc (.cells #[.int .i64 q1, .int .i64 q2, .int .i64 q3] 113)) := Ex.trans (Ex.made _ _) (Ex.made _ _)
  have b1 : Box ((w.alloc (.cells #[.int .i64 p1, .int .i64 p2, .int .i64 p3] 113)).alloc (.cells #[.int .i64 q1, .int .i64 q2, .int .i64 q3] 113)) w.heap.size #[.int .i64 p1, .int .i64 p2, .int .i64 p3] 113 := (Box.fresh w _ _).next (Ex.refl _)
  have b2 : Box ((w.alloc (.cells #[.int .i64 p1, .int .i64 p2, .int .i64 p3] 113)).alloc (.cells #[.int .i64 q1, .int .i64 q2, .int .i64 q3] 113)) (w.heap.size + 1) #[.int .i64 q1, .int .i64 q2, .int .i64 q3] 113 := by
    have := Box.fresh (w.alloc (.cells #[.int .i64 p1, .int .i64 p2, .int .i64 p3] 113)) #[.int .i64 q1, .int .i64 q2, .int .i64 q3] 113
    simpa using this
  obtain ⟨W, hW⟩ : ∃ W, W = (w.alloc (.cells #[.int .i64 p1, .int .i64 p2, .int .i64 p3] 113)).alloc (.cells #[.int .i64 q1, .int .i64 q2, .int .i64 q3] 113) := ⟨_, rfl⟩
  rw [← hW] at e0 b1 b2 ⊢
  clear hW
  have c0 : W.cell? ⟨w.heap.size, 0, none⟩ = some (.int .i64 p1) := b1.cell 0
  have c2 : W.cell? ⟨w.heap.size, 2, none⟩ = some (.int .i64 p3) := b1.cell 2
  have d0 : W.cell? ⟨w.heap.size + 1, 0, none⟩ = some (.int .i64 q1) := b2.cell 0
  have d2 : W.cell? ⟨w.heap.size + 1, 2, none⟩ = some (.int .i64 q3) := b2.cell 2
  refine wp_region_still_tail 12 (by kernel_rfl) (by kernel_rfl) ?_
  simp only [List.take_succ_cons, List.take_zero, List.drop_succ_cons, List.drop_zero]
  have e1 : Ex w W.drew := e0.trans (Ex.drawn W 1)
  replace c0 : W.drew.cell? ⟨w.heap.size, 0, none⟩ = some (.int .i64 p1) := c0
  replace c2 : W.drew.cell? ⟨w.heap.size, 2, none⟩ = some (.int .i64 p3) := c2
  replace d0 : W.drew.cell? ⟨w.heap.size + 1, 0, none⟩ = some (.int .i64 q1) := d0
  replace d2 : W.drew.cell? ⟨w.heap.size + 1, 2, none⟩ = some (.int .i64 q3) := d2
  rw [show ({ W with drawn := W.drawn + 1 } : World) = W.drew from rfl]
  clear b1 b2 e0
  generalize W.drew = V at *
  still_step
  still_step
  still_step
  still_step
  still_step
  still_step
  still_call ((compare64 V p1 q1).mono (fun _ _ h => ⟨h.1, h.2.symm⟩))
  still_step
  still_step
  still_step
  still_step
  still_call ((comparei V p3 q3).mono (fun _ _ h => ⟨h.1, h.2.symm⟩))
  refine wpStill_nil ?_
  go_wp2_with fail
  refine (or_two _ (cmpI p1 q1) (cmpI p3 q3) V.heap.size (by simp) (by simp)).mono ?_
  rintro e w' ⟨rfl, rfl⟩
  obtain ⟨z, hz⟩ : ∃ z, (if cmpI p1 q1 = 0 then cmpI p3 q3 else cmpI p1 q1) = z := ⟨_, rfl⟩
  rw [hz]
  go_wp2
  go_ret
  exact ⟨by rw [show ord (p1, p2, p3) (q1, q2, q3) = z from hz]; rfl, e1.trans (Ex.made V _)⟩

/-- The three cells of each. -/
def cells3 : List (Int × Int × Int) → List Value
  | [] => []
  | p :: l => .int .i64 p.1 :: .int .i64 p.2.1 :: .int .i64 p.2.2 :: cells3 l
theorem cells3_length : ∀ l, (cells3 l).length = l.length * 3
  | [] => rfl
  | p :: l => by simp [cells3, cells3_length l]; omega
theorem cells3_append : ∀ a b, cells3 (a ++ b) = cells3 a ++ cells3 b
  | [], b => rfl
  | p :: l, b => by simp [cells3, cells3_append l b]
theorem cells3_at : ∀ (l : List (Int × Int × Int)) (k : Nat) (h : k < l.length), (cells3 l)[k * 3]? = some (.int .i64 l[k].1) ∧ (cells3 l)[k * 3 + 1]? = some (.int .i64 l[k].2.1) ∧ (cells3 l)[k * 3 + 2]? = some (.int .i64 l[k].2.2)
  | [], k, h => by simp at h
  | p :: l, 0, h => by simp [cells3]
  | p :: l, k + 1, h => by
    have ih := cells3_at l k (by simpa using h)
    rw [show (k + 1) * 3 = k * 3 + 3 by omega, show k * 3 + 3 + 1 = k * 3 + 1 + 3 by omega, show k * 3 + 3 + 2 = k * 3 + 2 + 3 by omega]
    simpa [cells3] using ih
/-- p put at k: its three cells put. -/
theorem cells3_set : ∀ (l : List (Int × Int × Int)) (k : Nat) (p : Int × Int × Int), cells3 (l.set k p) = (((cells3 l).set (k * 3) (.int .i64 p.1)).set (k * 3 + 1) (.int .i64 p.2.1)).set (k * 3 + 2) (.int .i64 p.2.2)
  | [], k, p => by simp [cells3]
  | q :: l, 0, p => by simp [cells3]
  | q :: l, k + 1, p => by
    have ih := cells3_set l k p
    rw [show (k + 1) * 3 = k * 3 + 3 by omega, show k * 3 + 3 + 1 = k * 3 + 1 + 3 by omega, show k * 3 + 3 + 2 = k * 3 + 2 + 3 by omega]
    simpa [cells3] using ih

set_option maxHeartbeats 1600000 in
theorem less_core (w : World) (g n cap i j : Nat) (p q : Int × Int × Int) (hg : g < w.heap.size) (hi : (i : Int) < (n : Nat)) (hj : (j : Int) < (n : Nat))
    (x0 : w.cell? ⟨g, i * 3, none⟩ = some (.int .i64 p.1)) (x1 : w.cell? ⟨g, i * 3 + 1, none⟩ = some (.int .i64 p.2.1)) (x2 : w.cell? ⟨g, i * 3 + 2, none⟩ = some (.int .i64 p.2.2))
    (y0 : w.cell? ⟨g, j * 3, none⟩ = some (.int .i64 q.1)) (y1 : w.cell? ⟨g, j * 3 + 1, none⟩ = some (.int .i64 q.2.1)) (y2 : w.cell? ⟨g, j * 3 + 2, none⟩ = some (.int .i64 q.2.2)) :
    Calls Tryz.prog 112 #[.slice (some ⟨g, 0, none⟩) n cap, .int .i64 i, .int .i64 j] w fun e w' => e = .returned (.bool (decide (ord p q < 0))) ∧ Ex w w' := by
  have z0 : ∀ o : Out w, o.w.cell? ⟨g, i * 3, none⟩ = some (.int .i64 p.1) := fun o => cell_later o.2 x0
  have z1 : ∀ o : Out w, o.w.cell? ⟨g, i * 3 + 1, none⟩ = some (.int .i64 p.2.1) := fun o => cell_later o.2 x1
  have z2 : ∀ o : Out w, o.w.cell? ⟨g, i * 3 + 2, none⟩ = some (.int .i64 p.2.2) := fun o => cell_later o.2 x2
  have u0 : ∀ o : Out w, o.w.cell? ⟨g, j * 3, none⟩ = some (.int .i64 q.1) := fun o => cell_later o.2 y0
  have u1 : ∀ o : Out w, o.w.cell? ⟨g, j * 3 + 1, none⟩ = some (.int .i64 q.2.1) := fun o => cell_later o.2 y1
  have u2 : ∀ o : Out w, o.w.cell? ⟨g, j * 3 + 2, none⟩ = some (.int .i64 q.2.2) := fun o => cell_later o.2 y2
  obtain ⟨p1, p2, p3⟩ := p
  obtain ⟨q1, q2, q3⟩ := q
  dsimp only at z0 z1 z2 u0 u1 u2
  obtain ⟨z, hz⟩ : ∃ z, ord (p1, p2, p3) (q1, q2, q3) = z := ⟨_, rfl⟩
  rw [hz]
  have hord : ∀ o : Out w, Calls Tryz.prog 114 #[.agg #[.int .i64 p1, .int .i64 p2, .int .i64 p3], .agg #[.int .i64 q1, .int .i64 q2, .int .i64 q3]] o.w fun e w' => e = .returned (.int .i64 z) ∧ Ex o.w w' := fun o => hz ▸ order_any o.w (p1, p2, p3) (q1, q2, q3)
  clear hz x0 x1 x2 y0 y1 y2
  go_enter Tryz.func112, Tryz.ntmps112
  go_upto_region 1 with fail
  refine wp_region_ex (by kernel_rfl) (by kernel_rfl) ?_
  repeat (go_big_quiet_step ((go_at_call 114; exact quiet_ex (hord _))))
  refine wpQuiet_nil ?_
  rintro w4 ⟨⟨wz, hw⟩, rfl⟩
  go_wp2
  go_ret
  exact ⟨rfl, hw⟩

/-- The row of sleepers. -/
def Row3 (w : World) (base : Nat) (v : Value) (l : List (Int × Int × Int)) : Prop := w.ownsRow base 113 3 v l.length (cells3 l)

theorem Row3.cell {w : World} {base g cap : Nat} {l : List (Int × Int × Int)} (h : Row3 w base (.slice (some ⟨g, 0, none⟩) l.length cap) l) (k : Nat) (u : Value) (hk : (cells3 l)[k]? = some u) : w.cell? ⟨g, k, none⟩ = some u := by
  have hlt : k < l.length * 3 := by
    have := (List.getElem?_eq_some_iff.1 hk).1
    rwa [cells3_length] at this
  rw [World.ownsRow.cellAt h k (by omega)]
  exact hk

theorem less_at {w : World} {base g cap : Nat} {l : List (Int × Int × Int)} (h : Row3 w base (.slice (some ⟨g, 0, none⟩) l.length cap) l) (hg : g < w.heap.size) (i j : Nat) (hi : i < l.length) (hj : j < l.length) :
    Calls Tryz.prog 112 #[.slice (some ⟨g, 0, none⟩) l.length cap, .int .i64 i, .int .i64 j] w fun e w' => e = .returned (.bool (decide (ord l[i] l[j] < 0))) ∧ Ex w w' := by
  obtain ⟨a0, a1, a2⟩ := cells3_at l i hi
  obtain ⟨b0, b1, b2⟩ := cells3_at l j hj
  exact less_core w g l.length cap i j l[i] l[j] hg (by omega) (by omega) (h.cell _ _ a0) (h.cell _ _ a1) (h.cell _ _ a2) (h.cell _ _ b0) (h.cell _ _ b1) (h.cell _ _ b2)

end Go.Proofs.YtmlobpapjfkbmaaGreat.T13

/- Package timer: Swap. -/
namespace Go.Proofs.YtmlobpapjfkbmaaGreat.T13
open Go.RowKit
set_option linter.unusedVariables false
set_option maxRecDepth 20000

/-- Three cells put. -/
def set3 (w : World) (g i : Nat) (p : Int × Int × Int) : World := ((w.setCell ⟨g, i * 3, none⟩ (.int .i64 p.1)).setCell ⟨g, i * 3 + 1, none⟩ (.int .i64 p.2.1)).setCell ⟨g, i * 3 + 2, none⟩ (.int .i64 p.2.2)

set_option maxHeartbeats 3200000 in
theorem swap_core (w : World) (g n cap i j : Nat) (p q : Int × Int × Int) (hg : g < w.heap.size) (hi : (i : Int) < (n : Nat)) (hj : (j : Int) < (n : Nat))
    (x0 : w.cell? ⟨g, i * 3, none⟩ = some (.int .i64 p.1)) (x1 : w.cell? ⟨g, i * 3 + 1, none⟩ = some (.int .i64 p.2.1)) (x2 : w.cell? ⟨g, i * 3 + 2, none⟩ = some (.int .i64 p.2.2))
    (y0 : w.cell? ⟨g, j * 3, none⟩ = some (.int .i64 q.1)) (y1 : w.cell? ⟨g, j * 3 + 1, none⟩ = some (.int .i64 q.2.1)) (y2 : w.cell? ⟨g, j * 3 + 2, none⟩ = some (.int .i64 q.2.2))
    (fr : ∀ k, w.frozen? ⟨g, k, none⟩ = false) (hne : i ≠ j) :
    Calls Tryz.prog 113 #[.slice (some ⟨g, 0, none⟩) n cap, .int .i64 i, .int .i64 j] w fun e w' => e = .returned (.tuple #[]) ∧ w' = (set3 (set3 w g i q) g j p).drew := by
  obtain ⟨p1, p2, p3⟩ := p
  obtain ⟨q1, q2, q3⟩ := q
  dsimp only at x0 x1 x2 y0 y1 y2
  have f0 := fr (i * 3)
  have f1 := fr (i * 3 + 1)
  have f2 := fr (i * 3 + 2)
  have g0 := fr (j * 3)
  have g1 := fr (j * 3 + 1)
  have g2 := fr (j * 3 + 2)
  clear fr
  have n1 : ¬ i = j := hne
  have n2 : ¬ j = i := fun e => hne e.symm
  have m1 : ¬ i * 3 = j * 3 + 1 := by omega
  have m2 : ¬ i * 3 = j * 3 + 2 := by omega
  have m3 : ¬ i * 3 + 1 = j * 3 := by omega
  have m4 : ¬ i * 3 + 2 = j * 3 := by omega
  have m5 : ¬ i * 3 + 1 = j * 3 + 2 := by omega
  have m6 : ¬ i * 3 + 2 = j * 3 + 1 := by omega
  have k1 : ¬ j * 3 = i * 3 + 1 := by omega
  have k2 : ¬ j * 3 = i * 3 + 2 := by omega
  have k3 : ¬ j * 3 + 1 = i * 3 := by omega
  have k4 : ¬ j * 3 + 2 = i * 3 := by omega
  have k5 : ¬ j * 3 + 1 = i * 3 + 2 := by omega
  have k6 : ¬ j * 3 + 2 = i * 3 + 1 := by omega
  clear hne
  go_enter Tryz.func113, Tryz.ntmps113
  go_upto_region 0 with fail
  go_region
  exact Go.Great.bodyPost_end0 rfl rfl ⟨rfl, rfl⟩

set_option maxHeartbeats 3200000 in
theorem swap_same (w : World) (g n cap i : Nat) (p : Int × Int × Int) (hg : g < w.heap.size) (hi : (i : Int) < (n : Nat))
    (x0 : w.cell? ⟨g, i * 3, none⟩ = some (.int .i64 p.1)) (x1 : w.cell? ⟨g, i * 3 + 1, none⟩ = some (.int .i64 p.2.1)) (x2 : w.cell? ⟨g, i * 3 + 2, none⟩ = some (.int .i64 p.2.2))
    (fr : ∀ k, w.frozen? ⟨g, k, none⟩ = false) :
    Calls Tryz.prog 113 #[.slice (some ⟨g, 0, none⟩) n cap, .int .i64 i, .int .i64 i] w fun e w' => e = .returned (.tuple #[]) ∧ w' = (set3 (set3 w g i p) g i p).drew := by
  obtain ⟨p1, p2, p3⟩ := p
  dsimp only at x0 x1 x2
  have f0 := fr (i * 3)
  have f1 := fr (i * 3 + 1)
  have f2 := fr (i * 3 + 2)
  clear fr
  go_enter Tryz.func113, Tryz.ntmps113
  go_upto_region 0 with fail
  go_region
  exact Go.Great.bodyPost_end0 rfl rfl ⟨rfl, rfl⟩

def zz : Int × Int × Int := (0, 0, 0)
def swp (l : List (Int × Int × Int)) (i j : Nat) : List (Int × Int × Int) := (l.set i (l.getD j zz)).set j (l.getD i zz)
theorem swp_length (l : List (Int × Int × Int)) (i j : Nat) : (swp l i j).length = l.length := by simp [swp]

theorem Row3.put {w : World} {base g cap n : Nat} {l : List (Int × Int × Int)} (h : Row3 w base (.slice (some ⟨g, 0, none⟩) n cap) l) (hn : n = l.length) (k : Nat) (p : Int × Int × Int) :
    Row3 (set3 w g k p) base (.slice (some ⟨g, 0, none⟩) n cap) (l.set k p) := by
  subst hn
  unfold Row3 at *
  rw [cells3_set, List.length_set]
  exact (World.ownsRow.stored (World.ownsRow.stored (World.ownsRow.stored h _ _).1 _ _).1 _ _).1
theorem Chg.set3 (w : World) (g k : Nat) (p : Int × Int × Int) : Chg (fun i => i = g) w (set3 w g k p) :=
  ((Chg.cell (F := fun i => i = g) w ⟨g, k * 3, none⟩ _ rfl).trans (Chg.cell (F := fun i => i = g) _ ⟨g, k * 3 + 1, none⟩ _ rfl) (fun _ _ h => h)).trans (Chg.cell (F := fun i => i = g) _ ⟨g, k * 3 + 2, none⟩ _ rfl) (fun _ _ h => h)

theorem swap_at {w : World} {base g cap : Nat} {l : List (Int × Int × Int)} (h : Row3 w base (.slice (some ⟨g, 0, none⟩) l.length cap) l) (hg : g < w.heap.size) (i j : Nat) (hi : i < l.length) (hj : j < l.length) :
    Calls Tryz.prog 113 #[.slice (some ⟨g, 0, none⟩) l.length cap, .int .i64 i, .int .i64 j] w fun e w' => e = .returned (.tuple #[]) ∧ Row3 w' base (.slice (some ⟨g, 0, none⟩) l.length cap) (swp l i j) ∧ Chg (fun i => i = g) w w' := by
  obtain ⟨a0, a1, a2⟩ := cells3_at l i hi
  obtain ⟨b0, b1, b2⟩ := cells3_at l j hj
  have key : Row3 (set3 (set3 w g i l[j]) g j l[i]).drew base (.slice (some ⟨g, 0, none⟩) l.length cap) (swp l i j) ∧ Chg (fun i => i = g) w (set3 (set3 w g i l[j]) g j l[i]).drew := by
    constructor
    · have := (h.put rfl i l[j]).put (by simp) j l[i]
      unfold swp
      rw [show l.getD j zz = l[j] by simp [hj], show l.getD i zz = l[i] by simp [hi]]
      exact World.ownsRow.drew this
    · exact ((Chg.set3 w g i l[j]).trans (Chg.set3 _ g j l[i]) (fun _ _ h => h)).drew1
  by_cases hij : i = j
  · subst hij
    refine (swap_same w g l.length cap i l[i] hg (by omega) (h.cell _ _ a0) (h.cell _ _ a1) (h.cell _ _ a2) (fun k => World.ownsRow.frozenAt h k)).mono ?_
    rintro e w' ⟨rfl, rfl⟩
    exact ⟨rfl, key⟩
  · refine (swap_core w g l.length cap i j l[i] l[j] hg (by omega) (by omega) (h.cell _ _ a0) (h.cell _ _ a1) (h.cell _ _ a2) (h.cell _ _ b0) (h.cell _ _ b1) (h.cell _ _ b2) (fun k => World.ownsRow.frozenAt h k) hij).mono ?_
    rintro e w' ⟨rfl, rfl⟩
    exact ⟨rfl, key⟩

end Go.Proofs.YtmlobpapjfkbmaaGreat.T13

/- The heap's interface: its methods. -/
namespace Go.Proofs.YtmlobpapjfkbmaaGreat.T13
open Go.RowKit
set_option linter.unusedVariables false
set_option maxRecDepth 20000

theorem method_less {b : Nat} {s : Value} {w : World} (c : w.cell? ⟨b, 0, none⟩ = some s) :
    (method 262 115 (.pointer (some ⟨b, 0, none⟩)) "Less").run Tryz.prog w = .ok (112, s) w := by
  have e : (method 262 115 (.pointer (some ⟨b, 0, none⟩)) "Less").run Tryz.prog w = ((do let v ← loadVar 103 ⟨b, 0, none⟩; pure (112, v)) : Sem (FuncId × Value)).run Tryz.prog w := by kernel_rfl
  rw [e]
  go_simp
theorem method_swap {b : Nat} {s : Value} {w : World} (c : w.cell? ⟨b, 0, none⟩ = some s) :
    (method 262 115 (.pointer (some ⟨b, 0, none⟩)) "Swap").run Tryz.prog w = .ok (113, s) w := by
  have e : (method 262 115 (.pointer (some ⟨b, 0, none⟩)) "Swap").run Tryz.prog w = ((do let v ← loadVar 103 ⟨b, 0, none⟩; pure (113, v)) : Sem (FuncId × Value)).run Tryz.prog w := by kernel_rfl
  rw [e]
  go_simp
theorem method_len {b : Nat} {s : Value} {w : World} (c : w.cell? ⟨b, 0, none⟩ = some s) :
    (method 262 115 (.pointer (some ⟨b, 0, none⟩)) "Len").run Tryz.prog w = .ok (111, s) w := by
  have e : (method 262 115 (.pointer (some ⟨b, 0, none⟩)) "Len").run Tryz.prog w = ((do let v ← loadVar 103 ⟨b, 0, none⟩; pure (111, v)) : Sem (FuncId × Value)).run Tryz.prog w := by kernel_rfl
  rw [e]
  go_simp
theorem method_push (b : Nat) (w : World) :
    (method 262 115 (.pointer (some ⟨b, 0, none⟩)) "Push").run Tryz.prog w = .ok (121, .pointer (some ⟨b, 0, none⟩)) w := by kernel_rfl
theorem method_pop (b : Nat) (w : World) :
    (method 262 115 (.pointer (some ⟨b, 0, none⟩)) "Pop").run Tryz.prog w = .ok (120, .pointer (some ⟨b, 0, none⟩)) w := by kernel_rfl

end Go.Proofs.YtmlobpapjfkbmaaGreat.T13

/- container/heap: up. -/
namespace Go.Proofs.YtmlobpapjfkbmaaGreat.T13
open Go.RowKit
set_option linter.unusedVariables false
set_option maxRecDepth 20000

def upL : Nat → List (Int × Int × Int) → Nat → List (Int × Int × Int)
  | 0, l, _ => l
  | f + 1, l, j => if (j - 1) / 2 = j ∨ ¬ ord (l.getD j zz) (l.getD ((j - 1) / 2) zz) < 0 then l else upL f (swp l ((j - 1) / 2) j) ((j - 1) / 2)

theorem up_zero : ∀ f (l : List (Int × Int × Int)), upL f l 0 = l
  | 0, l => rfl
  | f + 1, l => by simp [upL]

theorem up_stop {f k i : Nat} {m : List (Int × Int × Int)} (hi : i = (k - 1) / 2) (ht : decide (ord (m.getD k zz) (m.getD i zz) < 0) = false) : upL f m k = m := by
  subst hi
  cases f with
  | zero => rfl
  | succ f =>
    unfold upL
    rw [if_pos (.inr (of_decide_eq_false ht))]
theorem up_go {f k i : Nat} {m : List (Int × Int × Int)} (hi : i = (k - 1) / 2) (h0 : ¬ k = 0) (hf : 0 < f) (ht : decide (ord (m.getD k zz) (m.getD i zz) < 0) = true) : upL f m k = upL (f - 1) (swp m i k) i := by
  subst hi
  cases f with
  | zero => omega
  | succ f =>
    rw [upL, if_neg]
    · rfl
    · rintro (h | h)
      · omega
      · exact h (of_decide_eq_true ht)

def pS (b : Nat) : Value := .iface 115 (.pointer (some ⟨b, 0, none⟩))

/-- The sleepers l in block b's first cell. -/
structure Sl (w : World) (base b g cap n : Nat) (l : List (Int × Int × Int)) : Prop where
  cell : w.cell? ⟨b, 0, none⟩ = some (.slice (some ⟨g, 0, none⟩) n cap)
  row : Row3 w base (.slice (some ⟨g, 0, none⟩) n cap) l
  len : l.length = n
  gb : g ≠ b
  gl : g < w.heap.size
  bl : b < w.heap.size

theorem Sl.ex {w w' : World} {base b g cap n : Nat} {l : List (Int × Int × Int)} (h : Sl w base b g cap n l) (k : Ex w w') : Sl w' base b g cap n l :=
  ⟨(k.cell (p := ⟨b, 0, none⟩) h.bl).trans h.cell, row_chg (F := fun _ => False) h.row (k.chg _) (fun _ _ h => h), h.len, h.gb, Nat.lt_of_lt_of_le h.gl k.size, Nat.lt_of_lt_of_le h.bl k.size⟩

theorem Sl.less {w : World} {base b g cap n : Nat} {l : List (Int × Int × Int)} (h : Sl w base b g cap n l) (i j : Nat) (hi : i < n) (hj : j < n) (t : Bool) (ht : decide (ord (l.getD i zz) (l.getD j zz) < 0) = t) :
    Calls Tryz.prog 112 #[.slice (some ⟨g, 0, none⟩) n cap, .int .i64 i, .int .i64 j] w fun e w' => e = .returned (.bool t) ∧ Ex w w' := by
  have hl := h.len
  subst hl ht
  have e1 : l.getD i zz = l[i] := by simp [hi]
  have e2 : l.getD j zz = l[j] := by simp [hj]
  rw [e1, e2]
  exact less_at h.row h.gl i j hi hj

theorem Sl.swap {w : World} {base b g cap n : Nat} {l : List (Int × Int × Int)} (h : Sl w base b g cap n l) (i j : Nat) (hi : i < n) (hj : j < n) :
    Calls Tryz.prog 113 #[.slice (some ⟨g, 0, none⟩) n cap, .int .i64 i, .int .i64 j] w fun e w' => e = .returned (.tuple #[]) ∧ Sl w' base b g cap n (swp l i j) ∧ Chg (fun i => i = g) w w' := by
  have hl := h.len
  subst hl
  refine (swap_at h.row h.gl i j hi hj).mono ?_
  rintro e w' ⟨he, hr, hc⟩
  have hs : w'.cell? ⟨b, 0, none⟩ = w.cell? ⟨b, 0, none⟩ := by
    have := hc.block b h.bl (fun e => h.gb e.symm)
    simp only [World.cell?, this]
  exact ⟨he, ⟨hs.trans h.cell, hr, swp_length l i j, h.gb, Nat.lt_of_lt_of_le h.gl hc.size, Nat.lt_of_lt_of_le h.bl hc.size⟩, hc⟩

set_option maxRecDepth 20000 in
set_option maxHeartbeats 3200000 in
theorem up_any {w : World} {base b g cap n : Nat} {l : List (Int × Int × Int)} (h : Sl w base b g cap n l) (j : Nat) (hj : j < n) (hn : n ≤ 1000) :
    Calls Tryz.prog 91 #[pS b, .int .i64 j] w fun e w' => e = .returned (.tuple #[]) ∧ Sl w' base b g cap n (upL n l j) ∧ Chg (fun i => i = g) w w' := by
  unfold pS
  go_enter Tryz.func91, Tryz.ntmps91
  go_wp2_with fail
  go_loopw [1] (fun jv wr => ∃ (k f : Nat) (m : List (Int × Int × Int)), k < n ∧ jv = .int .i64 k ∧ Sl wr base b g cap n m ∧ Chg (fun i => i = g) w wr ∧ upL f m k = upL n l j ∧ k < f) (fun jv _ => (intOf jv).toNat)
  case atStart => exact ⟨j, n, l, hj, rfl, h, Chg.refl _ _, rfl, hj⟩
  case round =>
    obtain ⟨k, f, m, hk, rfl, hs, hx, hu, hf⟩ := hrel
    have HS := Lib.hid hs
    have HX := Lib.hid hx
    have HU := Lib.hid hu
    have c0 := hs.cell
    clear hs hx hu h
    by_cases h0 : k = 0
    · subst h0
      rw [show ((0 : Nat) : Int) = 0 from rfl]
      go_wp2
      refine Go.Great.bodyPost_end0 rfl rfl ⟨rfl, ?_, HX.out⟩
      have := HU.out
      rw [← this, up_zero]
      exact HS.out
    · obtain ⟨i, hi⟩ : ∃ i, i = (k - 1) / 2 := ⟨_, rfl⟩
      have q1 : wrap64 ((k : Int) - 1) = (k : Int) - 1 := by unfold wrap64; omega
      have q2 : wrap64 (i : Int) = (i : Int) := by unfold wrap64; omega
      have q4 : ((k : Int) - 1).tdiv 2 = (i : Int) := by
        rw [Int.tdiv_eq_ediv_of_nonneg (by omega)]
        omega
      have q3 : ((i : Int) == (k : Int)) = false := by simp; omega
      have q5 : i < k := by omega
      obtain ⟨t, ht⟩ : ∃ t, decide (ord (m.getD k zz) (m.getD i zz) < 0) = t := ⟨_, rfl⟩
      have HT := Lib.hid ht
      have HI := Lib.hid hi
      have HN := Lib.hid h0
      have ml := method_less c0
      clear hi h0 ht
      cases t with
      | false =>
        go_wp2_with fail
        refine (HS.out.less k i hk (by omega) false HT.out).mono ?_
        rintro e w1 ⟨rfl, h1⟩
        have H1 := Lib.hid h1
        clear h1
        go_wp2_with fail
        refine Go.Great.bodyPost_end0 rfl rfl ⟨rfl, ?_, HX.out.ex H1.out⟩
        rw [← HU.out, up_stop HI.out HT.out]
        exact HS.out.ex H1.out
      | true =>
        go_wp2_with fail
        refine (HS.out.less k i hk (by omega) true HT.out).mono ?_
        rintro e w1 ⟨rfl, h1⟩
        have H1 := Lib.hid (HS.out.ex h1)
        have H2 := Lib.hid (HX.out.ex h1)
        have c1 := (HS.out.ex h1).cell
        have ms := method_swap c1
        clear h1
        go_wp2_with fail
        refine (H1.out.swap i k (by omega) hk).mono ?_
        rintro e w2 ⟨rfl, h3, h4⟩
        have H3 := Lib.hid h3
        have H4 := Lib.hid h4
        clear h3 h4
        go_wp2_with fail
        go_roundw
        case rel =>
          refine ⟨i, f - 1, swp m i k, by omega, rfl, H3.out, H2.out.trans H4.out (fun _ _ h => h), ?_, by omega⟩
          rw [← HU.out]
          exact (up_go HI.out HN.out (by omega) HT.out).symm
        case measure => simp [intOf]; omega

end Go.Proofs.YtmlobpapjfkbmaaGreat.T13

/- container/heap: down. -/
namespace Go.Proofs.YtmlobpapjfkbmaaGreat.T13
open Go.RowKit
set_option linter.unusedVariables false
set_option maxRecDepth 20000

/-- The child that goes first. -/
def kid (l : List (Int × Int × Int)) (N i : Nat) : Nat := if 2 * i + 2 < N ∧ ord (l.getD (2 * i + 2) zz) (l.getD (2 * i + 1) zz) < 0 then 2 * i + 2 else 2 * i + 1
def downL : Nat → List (Int × Int × Int) → Nat → Nat → List (Int × Int × Int) × Nat
  | 0, l, _, i => (l, i)
  | f + 1, l, N, i => if N ≤ 2 * i + 1 then (l, i) else if ord (l.getD (kid l N i) zz) (l.getD i zz) < 0 then downL f (swp l i (kid l N i)) N (kid l N i) else (l, i)

theorem down_end {f N k : Nat} {m : List (Int × Int × Int)} (h : N ≤ 2 * k + 1) : downL f m N k = (m, k) := by
  cases f with
  | zero => rfl
  | succ f => rw [downL, if_pos h]
theorem down_stop {f N k J : Nat} {m : List (Int × Int × Int)} (h : ¬ N ≤ 2 * k + 1) (hj : kid m N k = J) (hu : decide (ord (m.getD J zz) (m.getD k zz) < 0) = false) : downL f m N k = (m, k) := by
  cases f with
  | zero => rfl
  | succ f => rw [downL, if_neg h, hj, if_neg (of_decide_eq_false hu)]
theorem down_go {f N k J : Nat} {m : List (Int × Int × Int)} (hf : 0 < f) (h : ¬ N ≤ 2 * k + 1) (hj : kid m N k = J) (hu : decide (ord (m.getD J zz) (m.getD k zz) < 0) = true) : downL f m N k = downL (f - 1) (swp m k J) N J := by
  cases f with
  | zero => omega
  | succ f => rw [downL, if_neg h, hj, if_pos (of_decide_eq_true hu)]; rfl

set_option maxRecDepth 20000 in
set_option maxHeartbeats 3200000 in
theorem down_any {w : World} {base b g cap n : Nat} {l : List (Int × Int × Int)} (h : Sl w base b g cap n l) (i0 N : Nat) (hi : i0 < n) (hN : N ≤ n) (hn : n ≤ 1000) :
    Calls Tryz.prog 81 #[pS b, .int .i64 i0, .int .i64 N] w fun e w' => e = .returned (.bool (decide (i0 < (downL n l N i0).2))) ∧ Sl w' base b g cap n (downL n l N i0).1 ∧ Chg (fun i => i = g) w w' := by
  unfold pS
  obtain ⟨R, hR⟩ : ∃ R, R = downL n l N i0 := ⟨_, rfl⟩
  rw [← hR]
  go_enter Tryz.func81, Tryz.ntmps81
  go_wp2_with fail
  go_loopw [7] (fun iv wr => ∃ (k f : Nat) (m : List (Int × Int × Int)), k < n ∧ iv = .int .i64 k ∧ Sl wr base b g cap n m ∧ Chg (fun i => i = g) w wr ∧ downL f m N k = R ∧ n < f + k + 1) (fun iv _ => n - (intOf iv).toNat)
  case atStart => exact ⟨i0, n, l, hi, rfl, h, Chg.refl _ _, hR.symm, by omega⟩
  case round =>
    obtain ⟨k, f, m, hk, rfl, hs, hx, hu, hf⟩ := hrel
    have W1 := Lib.hid hs
    have X1 := Lib.hid hx
    have HU := Lib.hid hu
    have c0 := hs.cell
    clear hs hx hu h hR
    have q1 : wrap64 (2 * (k : Int)) = 2 * (k : Int) := by unfold wrap64; omega
    obtain ⟨a, ha⟩ : ∃ a, a = 2 * k + 1 := ⟨_, rfl⟩
    obtain ⟨c, hc⟩ : ∃ c, c = 2 * k + 2 := ⟨_, rfl⟩
    have q2 : 2 * (k : Int) + 1 = (a : Int) := by omega
    have q3 : wrap64 (a : Int) = (a : Int) := by unfold wrap64; omega
    have q4 : (a : Int) + 1 = (c : Int) := by omega
    have q5 : wrap64 (c : Int) = (c : Int) := by unfold wrap64; omega
    have r1 : k < a := by omega
    have r2 : a < c := by omega
    have q6 : ¬ ((a : Int) < 0) := by omega
    have HA := Lib.hid ha
    have HC := Lib.hid hc
    clear ha hc
    by_cases h1 : a < N
    · by_cases h2 : c < N
      · obtain ⟨t, ht⟩ : ∃ t, decide (ord (m.getD c zz) (m.getD a zz) < 0) = t := ⟨_, rfl⟩
        have HT := Lib.hid ht
        clear ht
        have ml := method_less c0
        have e1 : ¬ ((N : Int) ≤ (a : Int)) := by omega
        have e2 : (c : Int) < (N : Int) := by omega
        cases t with
        | false =>
          have HJ : Hid (kid m N k = a ∧ ¬ N ≤ 2 * k + 1) := Lib.hid (by
            have := HA.out; have := HC.out; have HT' := HT.out
            subst a c
            refine ⟨?_, by omega⟩
            unfold kid
            rw [if_neg (fun h => of_decide_eq_false HT' h.2)])
          go_wp2_with fail
          refine (W1.out.less c a (by omega) (by omega) false HT.out).mono ?_
          rintro e w1 ⟨rfl, hw1⟩
          replace W1 := Lib.hid (W1.out.ex hw1)
          replace X1 := Lib.hid (X1.out.ex hw1)
          clear hw1 ml c0
          obtain ⟨u, hu⟩ : ∃ u, decide (ord (m.getD a zz) (m.getD k zz) < 0) = u := ⟨_, rfl⟩
          have HUU := Lib.hid hu
          clear hu
          have ml2 := method_less W1.out.cell
          go_wp2_with fail
          cases u with
          | false =>
            refine (W1.out.less a k (by omega) (by omega) false HUU.out).mono ?_
            rintro e w2 ⟨rfl, h2⟩
            have H2 := Lib.hid h2
            clear h2
            go_wp2_with fail
            go_ret
            rw [← HU.out, down_stop HJ.out.2 HJ.out.1 HUU.out]
            refine ⟨by simp, ?_, X1.out.ex H2.out⟩
            exact W1.out.ex H2.out
          | true =>
            refine (W1.out.less a k (by omega) (by omega) true HUU.out).mono ?_
            rintro e w2 ⟨rfl, h2⟩
            have W2 := Lib.hid (W1.out.ex h2)
            have X2 := Lib.hid (X1.out.ex h2)
            have ms := method_swap (W1.out.ex h2).cell
            clear h2
            go_wp2_with fail
            refine (W2.out.swap k a (by omega) (by omega)).mono ?_
            rintro e w3 ⟨rfl, h3, h4⟩
            have H3 := Lib.hid h3
            have H4 := Lib.hid h4
            clear h3 h4
            go_wp2_with fail
            go_roundw
            case rel =>
              refine ⟨a, f - 1, swp m k a, by omega, rfl, H3.out, X2.out.trans H4.out (fun _ _ h => h), ?_, by omega⟩
              rw [← HU.out]
              exact (down_go (by omega) HJ.out.2 HJ.out.1 HUU.out).symm
            case measure => simp [intOf]; omega
        | true =>
          have HJ : Hid (kid m N k = c ∧ ¬ N ≤ 2 * k + 1) := Lib.hid (by
            have := HA.out; have := HC.out; have HT' := HT.out
            subst a c
            refine ⟨?_, by omega⟩
            unfold kid
            rw [if_pos ⟨by omega, of_decide_eq_true HT'⟩])
          go_wp2_with fail
          refine (W1.out.less c a (by omega) (by omega) true HT.out).mono ?_
          rintro e w1 ⟨rfl, hw1⟩
          replace W1 := Lib.hid (W1.out.ex hw1)
          replace X1 := Lib.hid (X1.out.ex hw1)
          clear hw1 ml c0
          obtain ⟨u, hu⟩ : ∃ u, decide (ord (m.getD c zz) (m.getD k zz) < 0) = u := ⟨_, rfl⟩
          have HUU := Lib.hid hu
          clear hu
          have ml2 := method_less W1.out.cell
          go_wp2_with fail
          cases u with
          | false =>
            refine (W1.out.less c k (by omega) (by omega) false HUU.out).mono ?_
            rintro e w2 ⟨rfl, h2⟩
            have H2 := Lib.hid h2
            clear h2
            go_wp2_with fail
            go_ret
            rw [← HU.out, down_stop HJ.out.2 HJ.out.1 HUU.out]
            refine ⟨by simp, ?_, X1.out.ex H2.out⟩
            exact W1.out.ex H2.out
          | true =>
            refine (W1.out.less c k (by omega) (by omega) true HUU.out).mono ?_
            rintro e w2 ⟨rfl, h2⟩
            have W2 := Lib.hid (W1.out.ex h2)
            have X2 := Lib.hid (X1.out.ex h2)
            have ms := method_swap (W1.out.ex h2).cell
            clear h2
            go_wp2_with fail
            refine (W2.out.swap k c (by omega) (by omega)).mono ?_
            rintro e w3 ⟨rfl, h3, h4⟩
            have H3 := Lib.hid h3
            have H4 := Lib.hid h4
            clear h3 h4
            go_wp2_with fail
            go_roundw
            case rel =>
              refine ⟨c, f - 1, swp m k c, by omega, rfl, H3.out, X2.out.trans H4.out (fun _ _ h => h), ?_, by omega⟩
              rw [← HU.out]
              exact (down_go (by omega) HJ.out.2 HJ.out.1 HUU.out).symm
            case measure => simp [intOf]; omega
      · have e2 : decide ((c : Int) < (N : Int)) = false := by simp; omega
        have e1 : ¬ ((N : Int) ≤ (a : Int)) := by omega
        have HJ : Hid (kid m N k = a ∧ ¬ N ≤ 2 * k + 1) := Lib.hid (by
          have := HA.out; have := HC.out
          subst a c
          refine ⟨?_, by omega⟩
          unfold kid
          rw [if_neg (fun h => h2 h.1)])
        obtain ⟨u, hu⟩ : ∃ u, decide (ord (m.getD a zz) (m.getD k zz) < 0) = u := ⟨_, rfl⟩
        have HUU := Lib.hid hu
        clear hu
        have ml2 := method_less W1.out.cell
        go_wp2_with fail
        cases u with
        | false =>
          refine (W1.out.less a k (by omega) (by omega) false HUU.out).mono ?_
          rintro e w2 ⟨rfl, h2⟩
          have H2 := Lib.hid h2
          clear h2
          go_wp2_with fail
          go_ret
          rw [← HU.out, down_stop HJ.out.2 HJ.out.1 HUU.out]
          refine ⟨by simp, ?_, X1.out.ex H2.out⟩
          exact W1.out.ex H2.out
        | true =>
          refine (W1.out.less a k (by omega) (by omega) true HUU.out).mono ?_
          rintro e w2 ⟨rfl, h2⟩
          have W2 := Lib.hid (W1.out.ex h2)
          have X2 := Lib.hid (X1.out.ex h2)
          have ms := method_swap (W1.out.ex h2).cell
          clear h2
          go_wp2_with fail
          refine (W2.out.swap k a (by omega) (by omega)).mono ?_
          rintro e w3 ⟨rfl, h3, h4⟩
          have H3 := Lib.hid h3
          have H4 := Lib.hid h4
          clear h3 h4
          go_wp2_with fail
          go_roundw
          case rel =>
            refine ⟨a, f - 1, swp m k a, by omega, rfl, H3.out, X2.out.trans H4.out (fun _ _ h => h), ?_, by omega⟩
            rw [← HU.out]
            exact (down_go (by omega) HJ.out.2 HJ.out.1 HUU.out).symm
          case measure => simp [intOf]; omega
    · have e1 : (N : Int) ≤ (a : Int) := by omega
      go_wp2_with fail
      go_ret
      rw [← HU.out, down_end (by have := HA.out; omega)]
      exact ⟨rfl, W1.out, X1.out⟩

end Go.Proofs.YtmlobpapjfkbmaaGreat.T13

/- Heaps, in plain Lean. -/
namespace Go.Proofs.YtmlobpapjfkbmaaGreat.T13
set_option linter.unusedVariables false
set_option maxRecDepth 20000

abbrev T3 := Int × Int × Int
def lt3 (p q : T3) : Prop := p.1 < q.1 ∨ (p.1 = q.1 ∧ p.2.2 < q.2.2)
theorem ord_neg (p q : T3) : ord p q < 0 ↔ lt3 p q := by
  unfold ord cmpI lt3
  by_cases h1 : p.1 < q.1
  · simp [h1]
  · by_cases h2 : q.1 < p.1
    · simp [h1, h2]; omega
    · have e : p.1 = q.1 := by omega
      by_cases h3 : p.2.2 < q.2.2
      · simp [e, h3]
      · by_cases h4 : q.2.2 < p.2.2
        · simp [e, h3, h4]
        · simp [e, h3, h4]

theorem lt3_trans {p q r : T3} (h : lt3 p q) (k : lt3 q r) : lt3 p r := by unfold lt3 at *; omega
theorem nlt3_trans {p q r : T3} (h : ¬ lt3 q p) (k : ¬ lt3 r q) : ¬ lt3 r p := by unfold lt3 at *; omega
theorem lt3_asymm {p q : T3} (h : lt3 p q) : ¬ lt3 q p := by unfold lt3 at *; omega

/-- The i-th. -/
def at3 (l : List T3) (i : Nat) : T3 := l.getD i zz
theorem at_swp (l : List T3) (i j k : Nat) (hi : i < l.length) (hj : j < l.length) : at3 (swp l i j) k = if k = j then at3 l i else if k = i then at3 l j else at3 l k := by
  unfold at3 swp
  by_cases h1 : k = j
  · subst h1; simp [hj]
  · by_cases h2 : k = i
    · subst h2; simp [h1, Ne.symm h1, hi]
    · simp [h1, h2, Ne.symm h1, Ne.symm h2]

/-- The first N are a heap. -/
def Hp (l : List T3) (N : Nat) : Prop := ∀ i, 0 < i → i < N → ¬ lt3 (at3 l i) (at3 l ((i - 1) / 2))

theorem Hp.top {l : List T3} {N : Nat} (h : Hp l N) : ∀ i, i < N → ¬ lt3 (at3 l i) (at3 l 0) := by
  intro i
  induction i using Nat.strongRecOn with
  | ind i ih =>
    intro hi
    by_cases h0 : i = 0
    · subst h0; unfold lt3; omega
    · exact nlt3_trans (ih ((i - 1) / 2) (by omega) (by omega)) (h i (by omega) hi)

/-- A heap but for j, which may be too small. -/
structure UpI (l : List T3) (N j : Nat) : Prop where
  edge : ∀ i, 0 < i → i < N → i ≠ j → ¬ lt3 (at3 l i) (at3 l ((i - 1) / 2))
  kids : ∀ i, 0 < i → i < N → (i - 1) / 2 = j → 0 < j → ¬ lt3 (at3 l i) (at3 l ((j - 1) / 2))

theorem up_heap : ∀ (f : Nat) (l : List T3) (j : Nat), j < f → j < l.length → UpI l l.length j → Hp (upL f l j) l.length
  | 0, l, j, h, _, _ => by omega
  | f + 1, l, j, h, hj, hu => by
    unfold upL
    by_cases h0 : (j - 1) / 2 = j ∨ ¬ ord (l.getD j zz) (l.getD ((j - 1) / 2) zz) < 0
    · rw [if_pos h0]
      intro i h1 h2
      by_cases hij : i = j
      · subst hij
        rcases h0 with h0 | h0
        · omega
        · exact fun k => h0 ((ord_neg _ _).2 k)
      · exact hu.edge i h1 h2 hij
    · rw [if_neg h0]
      have h1 : (j - 1) / 2 ≠ j := fun e => h0 (.inl e)
      have h2 : lt3 (at3 l j) (at3 l ((j - 1) / 2)) := (ord_neg _ _).1 (Classical.byContradiction fun e => h0 (.inr e))
      have hlt : (j - 1) / 2 < j := by omega
      have hk : (j - 1) / 2 < l.length := by omega
      have := up_heap f (swp l ((j - 1) / 2) j) ((j - 1) / 2) (by omega) (by rw [swp_length]; omega) ?_
      · rwa [swp_length] at this
      · rw [swp_length]
        constructor
        · intro i i1 i2 i3
          rw [at_swp _ _ _ _ hk hj, at_swp _ _ _ _ hk hj]
          by_cases a1 : i = j
          · subst a1
            rw [if_pos rfl, if_neg (by omega), if_pos rfl]
            exact lt3_asymm h2
          · rw [if_neg a1, if_neg i3]
            by_cases a2 : (i - 1) / 2 = j
            · rw [if_pos a2]
              exact hu.kids i i1 i2 a2 (by omega)
            · rw [if_neg a2]
              by_cases a3 : (i - 1) / 2 = (j - 1) / 2
              · rw [if_pos a3]
                have := hu.edge i i1 i2 a1
                rw [a3] at this
                exact nlt3_trans (lt3_asymm h2) this
              · rw [if_neg a3]
                exact hu.edge i i1 i2 a1
        · intro i i1 i2 i3 i4
          have e2 := hu.edge ((j - 1) / 2) i4 (by omega) (by omega)
          rw [at_swp _ _ _ _ hk hj, at_swp _ _ _ _ hk hj, if_neg (show ((j - 1) / 2 - 1) / 2 ≠ j by omega), if_neg (show ((j - 1) / 2 - 1) / 2 ≠ (j - 1) / 2 by omega)]
          by_cases a1 : i = j
          · rw [if_pos a1]; exact e2
          · rw [if_neg a1, if_neg (by omega)]
            have := hu.edge i i1 i2 a1
            rw [i3] at this
            exact nlt3_trans e2 this

/-- A heap but for i, which may be too great. -/
structure DownI (l : List T3) (N i : Nat) : Prop where
  edge : ∀ c, 0 < c → c < N → (c - 1) / 2 ≠ i → ¬ lt3 (at3 l c) (at3 l ((c - 1) / 2))
  kids : ∀ c, 0 < c → c < N → (c - 1) / 2 = i → 0 < i → ¬ lt3 (at3 l c) (at3 l ((i - 1) / 2))

theorem kid_is (l : List T3) (N i : Nat) (h : ¬ N ≤ 2 * i + 1) : kid l N i < N ∧ (kid l N i - 1) / 2 = i ∧ i < kid l N i ∧ ∀ c, 0 < c → c < N → (c - 1) / 2 = i → ¬ lt3 (at3 l c) (at3 l (kid l N i)) := by
  unfold kid
  by_cases h1 : 2 * i + 2 < N ∧ ord (l.getD (2 * i + 2) zz) (l.getD (2 * i + 1) zz) < 0
  · rw [if_pos h1]
    refine ⟨h1.1, by omega, by omega, ?_⟩
    intro c c1 c2 c3
    have h2 : lt3 (at3 l (2 * i + 2)) (at3 l (2 * i + 1)) := (ord_neg _ _).1 h1.2
    have hc : c = 2 * i + 1 ∨ c = 2 * i + 2 := by omega
    rcases hc with rfl | rfl
    · exact lt3_asymm h2
    · unfold lt3; omega
  · rw [if_neg h1]
    refine ⟨by omega, by omega, by omega, ?_⟩
    intro c c1 c2 c3
    have hc : c = 2 * i + 1 ∨ c = 2 * i + 2 := by omega
    rcases hc with rfl | rfl
    · unfold lt3; omega
    · exact fun k => h1 ⟨c2, (ord_neg _ _).2 k⟩

theorem down_heap : ∀ (f : Nat) (l : List T3) (N i : Nat), N ≤ f + i → N ≤ l.length → i < l.length → DownI l N i → Hp (downL f l N i).1 N
  | 0, l, N, i, h, hN, hi, hd => fun c c1 c2 => hd.edge c c1 c2 (by omega)
  | f + 1, l, N, i, h, hN, hi, hd => by
    rw [downL]
    by_cases h0 : N ≤ 2 * i + 1
    · rw [if_pos h0]
      exact fun c c1 c2 => hd.edge c c1 c2 (by omega)
    · rw [if_neg h0]
      obtain ⟨k1, k2, k3, k4⟩ := kid_is l N i h0
      generalize kid l N i = J at *
      by_cases h1 : ord (l.getD J zz) (l.getD i zz) < 0
      · rw [if_pos h1]
        have h2 : lt3 (at3 l J) (at3 l i) := (ord_neg _ _).1 h1
        refine down_heap f (swp l i J) N J (by omega) (by rw [swp_length]; omega) (by rw [swp_length]; omega) ?_
        constructor
        · intro c c1 c2 c3
          rw [at_swp _ _ _ _ hi (by omega), at_swp _ _ _ _ hi (by omega)]
          rw [if_neg c3]
          by_cases a1 : c = J
          · subst a1
            rw [if_pos rfl, if_pos k2]
            exact lt3_asymm h2
          · rw [if_neg a1]
            by_cases a2 : c = i
            · subst a2
              rw [if_pos rfl, if_neg (by omega)]
              exact hd.kids J (by omega) k1 k2 c1
            · rw [if_neg a2]
              by_cases a3 : (c - 1) / 2 = i
              · rw [if_pos a3]
                exact k4 c c1 c2 a3
              · rw [if_neg a3]
                exact hd.edge c c1 c2 a3
        · intro c c1 c2 c3 c4
          rw [at_swp _ _ _ _ hi (by omega), at_swp _ _ _ _ hi (by omega)]
          rw [if_neg (show c ≠ J by omega), if_neg (show c ≠ i by omega), if_neg (show (J - 1) / 2 ≠ J by omega), if_pos k2]
          have := hd.edge c c1 c2 (by omega)
          rwa [c3] at this
      · rw [if_neg h1]
        intro c c1 c2
        by_cases a1 : (c - 1) / 2 = i
        · rw [a1]
          exact nlt3_trans (fun k => h1 ((ord_neg _ _).2 k)) (k4 c c1 c2 a1)
        · exact hd.edge c c1 c2 a1

/-- What lies behind the first N stays. -/
theorem down_far : ∀ (f : Nat) (l : List T3) (N i k : Nat), N ≤ k → N ≤ l.length → i < N → at3 (downL f l N i).1 k = at3 l k
  | 0, l, N, i, k, h, hN, hi => rfl
  | f + 1, l, N, i, k, h, hN, hi => by
    rw [downL]
    by_cases h0 : N ≤ 2 * i + 1
    · rw [if_pos h0]
    · rw [if_neg h0]
      obtain ⟨k1, -⟩ := kid_is l N i h0
      by_cases h1 : ord (l.getD (kid l N i) zz) (l.getD i zz) < 0
      · rw [if_pos h1, down_far f _ N _ k h (by rw [swp_length]; omega) k1, at_swp _ _ _ _ (by omega) (by omega), if_neg (by omega), if_neg (by omega)]
      · rw [if_neg h1]

end Go.Proofs.YtmlobpapjfkbmaaGreat.T13

/- Package timer: Push, Pop of the slice; heap.Push, heap.Pop. -/
namespace Go.Proofs.YtmlobpapjfkbmaaGreat.T13
open Go.RowKit
set_option linter.unusedVariables false
set_option maxRecDepth 20000

/-- The sleepers l, as the value v, in block b's first cell. -/
structure Sv (w : World) (base b : Nat) (k : Int) (v : Value) (l : List (Int × Int × Int)) : Prop where
  cell : w.cell? ⟨b, 0, none⟩ = some v
  row : Row3 w base v l
  soft : w.frozen? ⟨b, 0, none⟩ = false
  mkd : w.cell? ⟨b, 1, none⟩ = some (.int .i64 k)
  msoft : w.frozen? ⟨b, 1, none⟩ = false
  bl : b < base
  wl : base ≤ w.heap.size

theorem Sv.own {w : World} {k : Int} {base b : Nat} {v : Value} {l : List (Int × Int × Int)} (h : Sv w base b k v l) (i : Nat) (hi : v.ownBlock = some i) : base ≤ i := by
  rcases row_shape h.row with ⟨h1, -, -⟩ | ⟨g, cap, h1, h2, -⟩
  · subst h1; cases hi
  · subst h1; cases hi; exact h2
theorem Sv.far {w w1 : World} {k : Int} {base b : Nat} {v : Value} {l : List (Int × Int × Int)} {o : Obj} (h : Sv w base b k v l) (hg : (w.alloc o).drew.grownBy w1 v.ownBlock) :
    w1.cell? ⟨b, 0, none⟩ = some v ∧ w1.frozen? ⟨b, 0, none⟩ = false ∧ (w1.cell? ⟨b, 1, none⟩ = some (.int .i64 k) ∧ w1.frozen? ⟨b, 1, none⟩ = false) ∧ Chg (fun i => v.ownBlock = some i) w w1 := by
  have h1 := h.bl
  have h2 := h.wl
  have c : Chg (fun i => v.ownBlock = some i) w w1 := (Chg.trans ((Ex.made w o).chg (fun i => v.ownBlock = some i)).drew1 (Chg.grown (F := fun i => v.ownBlock = some i) hg (fun i hi => hi)) (fun _ _ h => h))
  have hb := c.block b (by omega) (fun e => by have := h.own b e; omega)
  refine ⟨?_, ?_, ⟨?_, ?_⟩, c⟩
  · have := h.cell
    simp only [World.cell?, hb] at this ⊢
    exact this
  · have := h.soft
    simp only [World.frozen?, hb] at this ⊢
    exact this
  · have := h.mkd
    simp only [World.cell?, hb] at this ⊢
    exact this
  · have := h.msoft
    simp only [World.frozen?, hb] at this ⊢
    exact this

/-- The block, and the row's own. -/
def OB (b : Nat) (v : Value) (i : Nat) : Prop := i = b ∨ v.ownBlock = some i

theorem push_end {w w1 : World} {k : Int} {base b g cap : Nat} {v : Value} {l : List (Int × Int × Int)} {p : Int × Int × Int} (h : Sv w base b k v l)
    (hown : w1.ownsRow base 113 3 (.slice (some ⟨g, 0, none⟩) (l.length + 1) cap) (l.length + 1) (cells3 l ++ [.int .i64 p.1, .int .i64 p.2.1, .int .i64 p.2.2]))
    (ch : Chg (fun i => v.ownBlock = some i) w w1) (hat : v.ownBlock = some g ∨ w.heap.size ≤ g) (hlt : g < w1.heap.size) (cb : w1.cell? ⟨b, 0, none⟩ = some v) (fb : w1.frozen? ⟨b, 0, none⟩ = false) (mb : w1.cell? ⟨b, 1, none⟩ = some (.int .i64 k) ∧ w1.frozen? ⟨b, 1, none⟩ = false) :
    (∃ g' cap', Sv (w1.setCell ⟨b, 0, none⟩ (.slice (some ⟨g, 0, none⟩) (l.length + 1) cap)) base b k (.slice (some ⟨g', 0, none⟩) (l.length + 1) cap') (l ++ [p]) ∧ g' < (w1.setCell ⟨b, 0, none⟩ (.slice (some ⟨g, 0, none⟩) (l.length + 1) cap)).heap.size ∧ (v.ownBlock = some g' ∨ w.heap.size ≤ g')) ∧
      Chg (fun i => i = b ∨ v.ownBlock = some i) w (w1.setCell ⟨b, 0, none⟩ (.slice (some ⟨g, 0, none⟩) (l.length + 1) cap)) := by
  have hs : (w1.setCell ⟨b, 0, none⟩ (.slice (some ⟨g, 0, none⟩) (l.length + 1) cap)).heap.size = w1.heap.size := by simp [World.setCell]
  have hrow : w1.ownsRow base 113 3 (.slice (some ⟨g, 0, none⟩) (l.length + 1) cap) (l ++ [p]).length (cells3 (l ++ [p])) := by
    rw [cells3_append, List.length_append]
    exact hown
  refine ⟨⟨g, cap, ⟨?_, ?_, ?_, ?_, ?_, h.bl, by rw [hs]; exact Nat.le_trans h.wl ch.size⟩, by rw [hs]; exact hlt, hat⟩, ?_⟩
  · go_simp
  · refine ownsRow_setCell_below hrow h.bl _
  · go_simp
  · obtain ⟨mb1, mb2⟩ := mb
    go_simp
  · obtain ⟨mb1, mb2⟩ := mb
    go_simp
  · exact (ch.weak (fun _ _ h => .inr h)).trans (Chg.cell (F := fun i => i = b ∨ v.ownBlock = some i) _ ⟨b, 0, none⟩ _ (.inl rfl)) (fun _ _ h => h)

theorem info57 : (Tryz.prog.info? 113).map (fun i => (i.zero, i.size, i.bytes)) = some (some (.agg #[.int .i64 0, .int .i64 0, .int .i64 0]), 3, 24) := by kernel_rfl

theorem news3 (w : World) (p1 p2 p3 : Int) (t : TypeId) : ∀ (j : Nat) (u : Value), [Value.int .i64 p1, .int .i64 p2, .int .i64 p3][j]? = some u → ((w.alloc (.cells #[.int .i64 p1, .int .i64 p2, .int .i64 p3] t)).drew).cell? ((⟨w.heap.size, 0, none⟩ : Addr).add j) = some u := by
  intro j u hj
  have hb : Box ((w.alloc (.cells #[.int .i64 p1, .int .i64 p2, .int .i64 p3] t)).drew) w.heap.size #[.int .i64 p1, .int .i64 p2, .int .i64 p3] t := Box.fresh w _ t
  rw [show (⟨w.heap.size, 0, none⟩ : Addr).add j = ⟨w.heap.size, j, none⟩ by simp [Addr.add]; exact fun h => h.symm, hb.cell j]
  simpa using hj

set_option maxRecDepth 20000 in
set_option maxHeartbeats 3200000 in
theorem mpush_any {w : World} {k : Int} {base b : Nat} {v : Value} {l : List (Int × Int × Int)} (h : Sv w base b k v l) (p : Int × Int × Int) (hn : l.length < 1000) :
    Calls Tryz.prog 121 #[.pointer (some ⟨b, 0, none⟩), .iface 113 (.agg #[.int .i64 p.1, .int .i64 p.2.1, .int .i64 p.2.2])] w fun e w' => e = .returned (.tuple #[]) ∧
      (∃ g cap, Sv w' base b k (.slice (some ⟨g, 0, none⟩) (l.length + 1) cap) (l ++ [p]) ∧ g < w'.heap.size ∧ (v.ownBlock = some g ∨ w.heap.size ≤ g)) ∧ Chg (fun i => i = b ∨ v.ownBlock = some i) w w' := by
  obtain ⟨p1, p2, p3⟩ := p
  have c0 := h.cell
  have f0 := h.soft
  have H := Lib.hid h
  clear h
  go_enter Tryz.func121, Tryz.ntmps121
  go_upto_region 0 with fail
  have hta : ∀ (w : World) (x : Value), (Instr.typeAssert (.iface 113 x) 20 113 false).run Tryz.prog w = .ok x w := fun _ _ => by kernel_rfl
  obtain ⟨i0, hi, hz0, hz1, hz2⟩ := info_parts info57
  have s1 : Hid (((w.alloc (.cells #[.int .i64 p1, .int .i64 p2, .int .i64 p3] 113)).drew).ownsRow base 113 3 v l.length (cells3 l)) := Lib.hid (World.ownsRow.drew (World.ownsRow.alloc H.out.row _))
  have s2 := Lib.hid (news3 w p1 p2 p3 113)
  have s3 : Hid (base ≤ ((w.alloc (.cells #[.int .i64 p1, .int .i64 p2, .int .i64 p3] 113)).drew).heap.size) := Lib.hid (by have := H.out.wl; simp; omega)
  have hbw : b < w.heap.size := by have := H.out.bl; have := H.out.wl; omega
  have c1 : (w.alloc (.cells #[.int .i64 p1, .int .i64 p2, .int .i64 p3] 113)).cell? ⟨b, 0, none⟩ = some v := cell_later (Ex.made w _) c0
  have f1 : (w.alloc (.cells #[.int .i64 p1, .int .i64 p2, .int .i64 p3] 113)).frozen? ⟨b, 0, none⟩ = false := ((Ex.made w _).frozen (p := ⟨b, 0, none⟩) hbw).trans f0
  go_region_law (refine step_append_lies _ rfl (.tmp 7) (.tmp 10) 103 rfl base 113 i0 (.agg #[.int .i64 0, .int .i64 0, .int .i64 0]) 3 24 Tryz.underlying103 hi hz0 hz1 hz2 rfl (by decide) v l.length (cells3 l) (by simp [Act.eval]) s1.out ⟨w.heap.size, 0, none⟩ 1 1 [.int .i64 p1, .int .i64 p2, .int .i64 p3] (by simp [Act.eval]) rfl s2.out (by simp [Value.oneCell']) (by omega) (by unfold maxLen; omega) (by omega) s3.out _ rfl ?_; intro g cap w1 hown hgrow hat hlt; obtain ⟨cb, fb, mb, ch⟩ := H.out.far hgrow; have HMB := Lib.hid mb; have HO := Lib.hid hown; have HG := Lib.hid ch; have HL := Lib.hid hlt; have HAT : Hid (v.ownBlock = some g ∨ w.heap.size ≤ g) := Lib.hid (by rcases hat with h | h; exact .inl h; exact .inr (by simp at h; omega)); clear hown hgrow hat hlt ch mb)
  all_goals (refine Go.Great.bodyPost_end0 rfl rfl ⟨rfl, push_end (p := (p1, p2, p3)) H.out HO.out HG.out HAT.out HL.out cb fb HMB.out⟩)

end Go.Proofs.YtmlobpapjfkbmaaGreat.T13

