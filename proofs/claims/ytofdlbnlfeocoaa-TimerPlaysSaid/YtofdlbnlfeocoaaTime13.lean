/- Package timer: order. -/
import Derived.Test.YtofdlbnlfeocoaaApp
import Derived.LoopN
import Derived.Outline
import Derived.Deep.Cut
import Derived.StillTailTactics
namespace Go.Proofs.Ytofdlbnlfeocoaa
open Go.RowKit
set_option linter.unusedVariables false

def cmpI (x y : Int) : Int := if x < y then -1 else if y < x then 1 else 0

set_option maxHeartbeats 800000 in
theorem nan64 (w : World) (x : Int) : Calls Try.prog 45 #[.int .i64 x] w fun e w' => e = .returned (.bool false) ∧ w = w' := by
  go_enter Try.func45, Try.ntmps45
  go_wp2
  go_ret
  exact ⟨by simp, rfl⟩

set_option maxHeartbeats 800000 in
theorem nani (w : World) (x : Int) : Calls Try.prog 46 #[.int .i64 x] w fun e w' => e = .returned (.bool false) ∧ w = w' := by
  go_enter Try.func46, Try.ntmps46
  go_wp2
  go_ret
  exact ⟨by simp, rfl⟩

set_option maxHeartbeats 1600000 in
theorem compare64 (w : World) (x y : Int) : Calls Try.prog 33 #[.int .i64 x, .int .i64 y] w fun e w' => e = .returned (.int .i64 (cmpI x y)) ∧ w = w' := by
  have key : ∀ z, cmpI x y = z → Calls Try.prog 33 #[.int .i64 x, .int .i64 y] w fun e w' => e = .returned (.int .i64 z) ∧ w = w' := by
    intro z hz
    unfold cmpI at hz
    by_cases h1 : x < y
    · rw [if_pos h1] at hz
      subst hz
      go_enter Try.func33, Try.ntmps33
      go_wp2_with fail
      refine (nan64 w x).mono ?_
      rintro e w' ⟨rfl, rfl⟩
      go_wp2_with fail
      refine (nan64 w y).mono ?_
      rintro e w' ⟨rfl, rfl⟩
      go_wp2
      go_ret
      exact ⟨rfl, rfl⟩
    · rw [if_neg h1] at hz
      by_cases h2 : y < x
      · rw [if_pos h2] at hz
        subst hz
        go_enter Try.func33, Try.ntmps33
        go_wp2_with fail
        refine (nan64 w x).mono ?_
        rintro e w' ⟨rfl, rfl⟩
        go_wp2_with fail
        refine (nan64 w y).mono ?_
        rintro e w' ⟨rfl, rfl⟩
        go_wp2
        go_ret
        exact ⟨rfl, rfl⟩
      · rw [if_neg h2] at hz
        subst hz
        go_enter Try.func33, Try.ntmps33
        go_wp2_with fail
        refine (nan64 w x).mono ?_
        rintro e w' ⟨rfl, rfl⟩
        go_wp2_with fail
        refine (nan64 w y).mono ?_
        rintro e w' ⟨rfl, rfl⟩
        go_wp2
        go_ret
        exact ⟨rfl, rfl⟩
  exact key _ rfl

set_option maxHeartbeats 1600000 in
theorem comparei (w : World) (x y : Int) : Calls Try.prog 34 #[.int .i64 x, .int .i64 y] w fun e w' => e = .returned (.int .i64 (cmpI x y)) ∧ w = w' := by
  have key : ∀ z, cmpI x y = z → Calls Try.prog 34 #[.int .i64 x, .int .i64 y] w fun e w' => e = .returned (.int .i64 z) ∧ w = w' := by
    intro z hz
    unfold cmpI at hz
    by_cases h1 : x < y
    · rw [if_pos h1] at hz
      subst hz
      go_enter Try.func34, Try.ntmps34
      go_wp2_with fail
      refine (nani w x).mono ?_
      rintro e w' ⟨rfl, rfl⟩
      go_wp2_with fail
      refine (nani w y).mono ?_
      rintro e w' ⟨rfl, rfl⟩
      go_wp2
      go_ret
      exact ⟨rfl, rfl⟩
    · rw [if_neg h1] at hz
      by_cases h2 : y < x
      · rw [if_pos h2] at hz
        subst hz
        go_enter Try.func34, Try.ntmps34
        go_wp2_with fail
        refine (nani w x).mono ?_
        rintro e w' ⟨rfl, rfl⟩
        go_wp2_with fail
        refine (nani w y).mono ?_
        rintro e w' ⟨rfl, rfl⟩
        go_wp2
        go_ret
        exact ⟨rfl, rfl⟩
      · rw [if_neg h2] at hz
        subst hz
        go_enter Try.func34, Try.ntmps34
        go_wp2_with fail
        refine (nani w x).mono ?_
        rintro e w' ⟨rfl, rfl⟩
        go_wp2_with fail
        refine (nani w y).mono ?_
        rintro e w' ⟨rfl, rfl⟩
        go_wp2
        go_ret
        exact ⟨rfl, rfl⟩
  exact key _ rfl

set_option maxHeartbeats 1600000 in
theorem or_two (w : World) (x y : Int) (b : Nat) (c0 : w.cell? ⟨b, 0, none⟩ = some (.int .i64 x)) (c1 : w.cell? ⟨b, 1, none⟩ = some (.int .i64 y)) :
    Calls Try.prog 32 #[.slice (some ⟨b, 0, none⟩) 2 2] w fun e w' => e = .returned (.int .i64 (if x = 0 then y else x)) ∧ w = w' := by
  have key : ∀ z, (if x = 0 then y else x) = z → Calls Try.prog 32 #[.slice (some ⟨b, 0, none⟩) 2 2] w fun e w' => e = .returned (.int .i64 z) ∧ w = w' := by
    intro z hz
    by_cases h1 : x = 0
    · rw [if_pos h1] at hz
      subst h1 hz
      by_cases h2 : y = 0
      · subst h2
        go_enter Try.func32, Try.ntmps32
        go_wp2_with fail
        refine wp_loop_rounds 3 ?_; rw [rounds_succ]
        go_wp2_with fail
        rw [rounds_succ]
        go_wp2_with fail
        rw [rounds_succ]
        go_wp2_with fail
        go_ret
        exact ⟨rfl, rfl⟩
      · have h3 : (y == 0) = false := by simpa using h2
        go_enter Try.func32, Try.ntmps32
        go_wp2_with fail
        refine wp_loop_rounds 3 ?_; rw [rounds_succ]
        go_wp2_with fail
        rw [rounds_succ]
        go_wp2_with fail
        go_ret
        exact ⟨rfl, rfl⟩
    · rw [if_neg h1] at hz
      subst hz
      have h3 : (x == 0) = false := by simpa using h1
      go_enter Try.func32, Try.ntmps32
      go_wp2_with fail
      refine wp_loop_rounds 3 ?_; rw [rounds_succ]
      go_wp2_with fail
      go_ret
      exact ⟨rfl, rfl⟩
  exact key _ rfl

/-- One sleeper's three cells. -/
def sl (p : Int × Int × Int) : Value := .agg #[.int .i64 p.1, .int .i64 p.2.1, .int .i64 p.2.2]
def ord (p q : Int × Int × Int) : Int := if cmpI p.1 q.1 = 0 then cmpI p.2.2 q.2.2 else cmpI p.1 q.1

set_option maxHeartbeats 1600000 in
theorem order_any (w : World) (p q : Int × Int × Int) : Calls Try.prog 29 #[.agg #[.int .i64 p.1, .int .i64 p.2.1, .int .i64 p.2.2], .agg #[.int .i64 q.1, .int .i64 q.2.1, .int .i64 q.2.2]] w fun e w' => e = .returned (.int .i64 (ord p q)) ∧ Ex w w' := by
  obtain ⟨p1, p2, p3⟩ := p
  obtain ⟨q1, q2, q3⟩ := q
  go_enter Try.func29, Try.ntmps29
  go_upto_region 1 with fail
  have e0 : Ex w ((w.alloc (.cells #[.int .i64 p1, .int .i64 p2, .int .i64 p3] 57)).alloc (.cells #[.int .i64 q1, .int .i64 q2, .int .i64 q3] 57)) := Ex.trans (Ex.made _ _) (Ex.made _ _)
  have b1 : Box ((w.alloc (.cells #[.int .i64 p1, .int .i64 p2, .int .i64 p3] 57)).alloc (.cells #[.int .i64 q1, .int .i64 q2, .int .i64 q3] 57)) w.heap.size #[.int .i64 p1, .int .i64 p2, .int .i64 p3] 57 := (Box.fresh w _ _).next (Ex.refl _)
  have b2 : Box ((w.alloc (.cells #[.int .i64 p1, .int .i64 p2, .int .i64 p3] 57)).alloc (.cells #[.int .i64 q1, .int .i64 q2, .int .i64 q3] 57)) (w.heap.size + 1) #[.int .i64 q1, .int .i64 q2, .int .i64 q3] 57 := by
    have := Box.fresh (w.alloc (.cells #[.int .i64 p1, .int .i64 p2, .int .i64 p3] 57)) #[.int .i64 q1, .int .i64 q2, .int .i64 q3] 57
    simpa using this
  obtain ⟨W, hW⟩ : ∃ W, W = (w.alloc (.cells #[.int .i64 p1, .int .i64 p2, .int .i64 p3] 57)).alloc (.cells #[.int .i64 q1, .int .i64 q2, .int .i64 q3] 57) := ⟨_, rfl⟩
  rw [← hW] at e0 b1 b2 ⊢
  clear hW
  have c0 : W.cell? ⟨w.heap.size, 0, none⟩ = some (.int .i64 p1) := b1.cell 0
  have c2 : W.cell? ⟨w.heap.size, 2, none⟩ = some (.int .i64 p3) := b1.cell 2
  have d0 : W.cell? ⟨w.heap.size + 1, 0, none⟩ = some (.int .i64 q1) := b2.cell 0
  have d2 : W.cell? ⟨w.heap.size + 1, 2, none⟩ = some (.int .i64 q3) := b2.cell 2
  refine wp_region_still_tail 12 (by kernel_rfl) (by kernel_rfl) ?_
  simp only [List.take_succ_cons, List.take_zero, List.drop_succ_cons, List.drop_zero]
  have e1 : Ex w W.drew := e0.trans (Ex.drawn W 1)
  replace c0 : W.drew.cell? ⟨w.heap.size, 0, none⟩ = some (.int .i64 p1) := c0
  replace c2 : W.drew.cell? ⟨w.heap.size, 2, none⟩ = some (.int .i64 p3) := c2
  replace d0 : W.drew.cell? ⟨w.heap.size + 1, 0, none⟩ = some (.int .i64 q1) := d0
  replace d2 : W.drew.cell? ⟨w.heap.size + 1, 2, none⟩ = some (.int .i64 q3) := d2
  rw [show ({ W with drawn := W.drawn + 1 } : World) = W.drew from rfl]
  clear b1 b2 e0
  generalize W.drew = V at *
  still_step
  still_step
  still_step
  still_step
  still_step
  still_step
  still_call ((compare64 V p1 q1).mono (fun _ _ h => ⟨h.1, h.2.symm⟩))
  still_step
  still_step
  still_step
  still_step
  still_call ((comparei V p3 q3).mono (fun _ _ h => ⟨h.1, h.2.symm⟩))
  refine wpStill_nil ?_
  go_wp2_with fail
  refine (or_two _ (cmpI p1 q1) (cmpI p3 q3) V.heap.size (by simp) (by simp)).mono ?_
  rintro e w' ⟨rfl, rfl⟩
  obtain ⟨z, hz⟩ : ∃ z, (if cmpI p1 q1 = 0 then cmpI p3 q3 else cmpI p1 q1) = z := ⟨_, rfl⟩
  rw [hz]
  go_wp2
  go_ret
  exact ⟨by rw [show ord (p1, p2, p3) (q1, q2, q3) = z from hz]; rfl, e1.trans (Ex.made V _)⟩

/-- The three cells of each. -/
def cells3 : List (Int × Int × Int) → List Value
  | [] => []
  | p :: l => .int .i64 p.1 :: .int .i64 p.2.1 :: .int .i64 p.2.2 :: cells3 l
theorem cells3_length : ∀ l, (cells3 l).length = l.length * 3
  | [] => rfl
  | p :: l => by simp [cells3, cells3_length l]; omega
theorem cells3_append : ∀ a b, cells3 (a ++ b) = cells3 a ++ cells3 b
  | [], b => rfl
  | p :: l, b => by simp [cells3, cells3_append l b]
theorem cells3_at : ∀ (l : List (Int × Int × Int)) (k : Nat) (h : k < l.length), (cells3 l)[k * 3]? = some (.int .i64 l[k].1) ∧ (cells3 l)[k * 3 + 1]? = some (.int .i64 l[k].2.1) ∧ (cells3 l)[k * 3 + 2]? = some (.int .i64 l[k].2.2)
  | [], k, h => by simp at h
  | p :: l, 0, h => by simp [cells3]
  | p :: l, k + 1, h => by
    have ih := cells3_at l k (by simpa using h)
    rw [show (k + 1) * 3 = k * 3 + 3 by omega, show k * 3 + 3 + 1 = k * 3 + 1 + 3 by omega, show k * 3 + 3 + 2 = k * 3 + 2 + 3 by omega]
    simpa [cells3] using ih
/-- p put at k: its three cells put. -/
theorem cells3_set : ∀ (l : List (Int × Int × Int)) (k : Nat) (p : Int × Int × Int), cells3 (l.set k p) = (((cells3 l).set (k * 3) (.int .i64 p.1)).set (k * 3 + 1) (.int .i64 p.2.1)).set (k * 3 + 2) (.int .i64 p.2.2)
  | [], k, p => by simp [cells3]
  | q :: l, 0, p => by simp [cells3]
  | q :: l, k + 1, p => by
    have ih := cells3_set l k p
    rw [show (k + 1) * 3 = k * 3 + 3 by omega, show k * 3 + 3 + 1 = k * 3 + 1 + 3 by omega, show k * 3 + 3 + 2 = k * 3 + 2 + 3 by omega]
    simpa [cells3] using ih

set_option maxHeartbeats 1600000 in
theorem less_core (w : World) (g n cap i j : Nat) (p q : Int × Int × Int) (hg : g < w.heap.size) (hi : (i : Int) < (n : Nat)) (hj : (j : Int) < (n : Nat))
    (x0 : w.cell? ⟨g, i * 3, none⟩ = some (.int .i64 p.1)) (x1 : w.cell? ⟨g, i * 3 + 1, none⟩ = some (.int .i64 p.2.1)) (x2 : w.cell? ⟨g, i * 3 + 2, none⟩ = some (.int .i64 p.2.2))
    (y0 : w.cell? ⟨g, j * 3, none⟩ = some (.int .i64 q.1)) (y1 : w.cell? ⟨g, j * 3 + 1, none⟩ = some (.int .i64 q.2.1)) (y2 : w.cell? ⟨g, j * 3 + 2, none⟩ = some (.int .i64 q.2.2)) :
    Calls Try.prog 70 #[.slice (some ⟨g, 0, none⟩) n cap, .int .i64 i, .int .i64 j] w fun e w' => e = .returned (.bool (decide (ord p q < 0))) ∧ Ex w w' := by
  have z0 : ∀ o : Out w, o.w.cell? ⟨g, i * 3, none⟩ = some (.int .i64 p.1) := fun o => cell_later o.2 x0
  have z1 : ∀ o : Out w, o.w.cell? ⟨g, i * 3 + 1, none⟩ = some (.int .i64 p.2.1) := fun o => cell_later o.2 x1
  have z2 : ∀ o : Out w, o.w.cell? ⟨g, i * 3 + 2, none⟩ = some (.int .i64 p.2.2) := fun o => cell_later o.2 x2
  have u0 : ∀ o : Out w, o.w.cell? ⟨g, j * 3, none⟩ = some (.int .i64 q.1) := fun o => cell_later o.2 y0
  have u1 : ∀ o : Out w, o.w.cell? ⟨g, j * 3 + 1, none⟩ = some (.int .i64 q.2.1) := fun o => cell_later o.2 y1
  have u2 : ∀ o : Out w, o.w.cell? ⟨g, j * 3 + 2, none⟩ = some (.int .i64 q.2.2) := fun o => cell_later o.2 y2
  obtain ⟨p1, p2, p3⟩ := p
  obtain ⟨q1, q2, q3⟩ := q
  dsimp only at z0 z1 z2 u0 u1 u2
  obtain ⟨z, hz⟩ : ∃ z, ord (p1, p2, p3) (q1, q2, q3) = z := ⟨_, rfl⟩
  rw [hz]
  have hord : ∀ o : Out w, Calls Try.prog 29 #[.agg #[.int .i64 p1, .int .i64 p2, .int .i64 p3], .agg #[.int .i64 q1, .int .i64 q2, .int .i64 q3]] o.w fun e w' => e = .returned (.int .i64 z) ∧ Ex o.w w' := fun o => hz ▸ order_any o.w (p1, p2, p3) (q1, q2, q3)
  clear hz x0 x1 x2 y0 y1 y2
  go_enter Try.func70, Try.ntmps70
  go_upto_region 1 with fail
  refine wp_region_ex (by kernel_rfl) (by kernel_rfl) ?_
  repeat (go_big_quiet_step ((go_at_call 29; exact quiet_ex (hord _))))
  refine wpQuiet_nil ?_
  rintro w4 ⟨⟨wz, hw⟩, rfl⟩
  go_wp2
  go_ret
  exact ⟨rfl, hw⟩

/-- The row of sleepers. -/
def Row3 (w : World) (base : Nat) (v : Value) (l : List (Int × Int × Int)) : Prop := w.ownsRow base 57 3 v l.length (cells3 l)

theorem Row3.cell {w : World} {base g cap : Nat} {l : List (Int × Int × Int)} (h : Row3 w base (.slice (some ⟨g, 0, none⟩) l.length cap) l) (k : Nat) (u : Value) (hk : (cells3 l)[k]? = some u) : w.cell? ⟨g, k, none⟩ = some u := by
  have hlt : k < l.length * 3 := by
    have := (List.getElem?_eq_some_iff.1 hk).1
    rwa [cells3_length] at this
  rw [World.ownsRow.cellAt h k (by omega)]
  exact hk

theorem less_at {w : World} {base g cap : Nat} {l : List (Int × Int × Int)} (h : Row3 w base (.slice (some ⟨g, 0, none⟩) l.length cap) l) (hg : g < w.heap.size) (i j : Nat) (hi : i < l.length) (hj : j < l.length) :
    Calls Try.prog 70 #[.slice (some ⟨g, 0, none⟩) l.length cap, .int .i64 i, .int .i64 j] w fun e w' => e = .returned (.bool (decide (ord l[i] l[j] < 0))) ∧ Ex w w' := by
  obtain ⟨a0, a1, a2⟩ := cells3_at l i hi
  obtain ⟨b0, b1, b2⟩ := cells3_at l j hj
  exact less_core w g l.length cap i j l[i] l[j] hg (by omega) (by omega) (h.cell _ _ a0) (h.cell _ _ a1) (h.cell _ _ a2) (h.cell _ _ b0) (h.cell _ _ b1) (h.cell _ _ b2)

end Go.Proofs.Ytofdlbnlfeocoaa
