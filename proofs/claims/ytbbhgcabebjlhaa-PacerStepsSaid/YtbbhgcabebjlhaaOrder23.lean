/- PacerOrder: a trigger is at most its goal, both within the heap; more that lives, or more percent, never brings a lesser goal; ratios lie within their bounds: for all numbers. -/
import Derived.Test.YtbbhgcabebjlhaaTold23
import Derived.Deep.QuietTactic
import Derived.BigQuiet
namespace Go.Proofs.Ytbbhgcabebjlhaa
open Go.RowKit
set_option linter.unusedVariables false

theorem goalIn_mono {W L L' P P' : Int} (W1 : 0 ≤ W) (L1 : 0 ≤ L) (P1 : 0 ≤ P) (hL : L ≤ L') (hP : P ≤ P') : goalIn W L P ≤ goalIn W L' P' := by
  have h1 : L * P ≤ L' * P' := Int.mul_le_mul hL hP P1 (by omega)
  unfold goalIn
  omega

theorem gW_in {w : Int} (h : 0 ≤ w) (h' : w ≤ 16777216) : gW w = w := by unfold gW; omega
theorem gL_in {l w : Int} (h : 0 ≤ w) (h' : w ≤ 16777216) (l0 : 0 ≤ l) (l1 : l ≤ w) : gL l w = l := by unfold gL; rw [gW_in h h']; omega
theorem gP_in {p : Int} (h : 0 ≤ p) (h' : p ≤ 10000) : gP p = p := by unfold gP; omega

set_option maxHeartbeats 1600000 in
theorem walk_PacerOrder (live words percent more scan trigger goal : Int) (_w0 : (Lit.int .i64 live).wf = true) (_w1 : (Lit.int .i64 words).wf = true) (_w2 : (Lit.int .i64 percent).wf = true) (_w3 : (Lit.int .i64 more).wf = true) (w4 : (Lit.int .i64 scan).wf = true) (w5 : (Lit.int .i64 trigger).wf = true) (w6 : (Lit.int .i64 goal).wf = true) (w : World) :
    Calls Try.prog 4 #[.int .i64 live, .int .i64 words, .int .i64 percent, .int .i64 more, .int .i64 scan, .int .i64 trigger, .int .i64 goal] w fun e w' => e = .returned (.bool true) ∧ Below w.heap.size w w' := by
  obtain ⟨s1, s2⟩ := wf64 w4
  obtain ⟨t1, t2⟩ := wf64 w5
  obtain ⟨g1, g2⟩ := wf64 w6
  clear _w0 _w1 _w2 _w3 w4 w5 w6
  obtain ⟨W, hW⟩ : ∃ r, (IntKind.u64.wrap words).tmod 16777216 = r := ⟨_, rfl⟩
  obtain ⟨W1, W2⟩ := umod_bd words 16777216 (by omega)
  rw [hW] at W1 W2
  obtain ⟨l, hl⟩ : ∃ r, (IntKind.u64.wrap live).tmod (W + 1) = r := ⟨_, rfl⟩
  obtain ⟨l1, l2⟩ := umod_bd live (W + 1) (by omega)
  rw [hl] at l1 l2
  obtain ⟨p, hp⟩ : ∃ r, (IntKind.u64.wrap percent).tmod 10001 = r := ⟨_, rfl⟩
  obtain ⟨p1, p2⟩ := umod_bd percent 10001 (by omega)
  rw [hp] at p1 p2
  obtain ⟨m, hm⟩ : ∃ r, (IntKind.u64.wrap more).tmod 10001 = r := ⟨_, rfl⟩
  obtain ⟨m1, m2⟩ := umod_bd more 10001 (by omega)
  rw [hm] at m1 m2
  have wz : ((W + 1 : Int) == 0) = false := by simp; omega
  obtain ⟨lb, hlb⟩ : ∃ x, min (l + m) W = x := ⟨_, rfl⟩
  obtain ⟨pc, hpc⟩ : ∃ x, min (p + m) 10000 = x := ⟨_, rfl⟩
  have o1 : goalG l W p ≤ goalG lb W p := by
    unfold goalG
    rw [gW_in W1 (by omega), gL_in W1 (by omega) l1 (by omega), gL_in W1 (by omega) (show 0 ≤ lb by omega) (by omega), gP_in p1 (by omega)]
    exact goalIn_mono W1 l1 p1 (by omega) (by omega)
  have o2 : goalG l W p ≤ goalG l W pc := by
    unfold goalG
    rw [gW_in W1 (by omega), gL_in W1 (by omega) l1 (by omega), gP_in p1 (by omega), gP_in (show 0 ≤ pc by omega) (by omega)]
    exact goalIn_mono W1 l1 p1 (by omega) (by omega)
  obtain ⟨b1, b2, b3, b4⟩ := goal_bd l W p
  rw [gW_in W1 (by omega)] at b2
  have r1 := ratio_bd (gL l W) (goalT l W p) (goalG l W p)
  have r2 := ratio_bd scan trigger goal
  obtain ⟨aT, haT⟩ : ∃ x, goalT l W p = x := ⟨_, rfl⟩
  obtain ⟨aG, haG⟩ : ∃ x, goalG l W p = x := ⟨_, rfl⟩
  obtain ⟨aR, haR⟩ : ∃ x, goalR l W p = x := ⟨_, rfl⟩
  obtain ⟨bT, hbT⟩ : ∃ x, goalT lb W p = x := ⟨_, rfl⟩
  obtain ⟨bG, hbG⟩ : ∃ x, goalG lb W p = x := ⟨_, rfl⟩
  obtain ⟨bR, hbR⟩ : ∃ x, goalR lb W p = x := ⟨_, rfl⟩
  obtain ⟨cT, hcT⟩ : ∃ x, goalT l W pc = x := ⟨_, rfl⟩
  obtain ⟨cG, hcG⟩ : ∃ x, goalG l W pc = x := ⟨_, rfl⟩
  obtain ⟨cR, hcR⟩ : ∃ x, goalR l W pc = x := ⟨_, rfl⟩
  obtain ⟨rr, hrr⟩ : ∃ x, ratioV scan trigger goal = x := ⟨_, rfl⟩
  have haR' : ratioV (gL l W) (goalT l W p) (goalG l W p) = aR := haR
  rw [haR'] at r1
  rw [hrr] at r2
  rw [haG, hbG] at o1
  rw [haG, hcG] at o2
  rw [haG] at b1 b2 b4
  rw [haT] at b3 b4
  obtain ⟨r3, r4⟩ := r1
  obtain ⟨r5, r6⟩ := r2
  have HaT := Lib.hid haT
  have HaG := Lib.hid haG
  have HaR := Lib.hid haR
  have HbT := Lib.hid hbT
  have HbG := Lib.hid hbG
  have HbR := Lib.hid hbR
  have HcT := Lib.hid hcT
  have HcG := Lib.hid hcG
  have HcR := Lib.hid hcR
  have Hrr := Lib.hid hrr
  clear haT haG haR hbT hbG hbR hcT hcG hcR hrr haR'
  go_enter Try.func4, Try.ntmps4
  go_wp2_with fail
  refine (kgoal HaT.out HaG.out HaR.out).mono ?_
  rintro e w1 ⟨rfl, hw⟩
  have Hw1 := Lib.hid hw
  clear hw
  go_wp2_with fail
  refine (kgoal HbT.out HbG.out HbR.out).mono ?_
  rintro e w2 ⟨rfl, hw⟩
  have Hw2 := Lib.hid (Hw1.out.new hw)
  have B1 := Lib.hid (Box.new hw)
  clear hw Hw1
  go_wp2_with fail
  refine (kgoal HcT.out HcG.out HcR.out).mono ?_
  rintro e w3 ⟨rfl, hw⟩
  have Hw3 := Lib.hid (Hw2.out.new hw)
  have B2 := Lib.hid (Box.new hw)
  have B3 := Lib.hid (B1.out.next hw)
  clear hw Hw2 B1
  go_wp2_with fail
  refine (kratio Hrr.out s1 s2 t1 t2 g1 g2).mono ?_
  rintro e w4 ⟨rfl, hw⟩
  have hw := hw.ex
  have Hw4 := Lib.hid (Hw3.out.new hw)
  have C1 := Lib.hid (Box.new hw)
  have C2 := Lib.hid (B2.out.next hw)
  have C3 := Lib.hid (B3.out.next hw)
  clear hw Hw3 B2 B3
  go_wp2_with fail
  refine (told_any _).mono ?_
  rintro e w5 ⟨rfl, hw⟩
  have Hw5 := Lib.hid (Hw4.out.trans hw)
  obtain ⟨c0, c1, c2⟩ := (C1.out.ex hw).three
  obtain ⟨d0, d1, d2⟩ := (C2.out.ex hw).three
  obtain ⟨f0, f1, f2⟩ := (C3.out.ex hw).three
  clear hw Hw4 C1 C2 C3
  go_wp2_with fail
  go_ret
  exact ⟨rfl, Hw5.out⟩

end Go.Proofs.Ytbbhgcabebjlhaa
