/- PacerEdges: an empty heap, a full one, a collector that is off, percents beyond their bounds: for every number. -/
import Derived.Test.YtbbhgcabebjlhaaOrder23
import Derived.Test.YtbbhgcabebjlhaaExQuiet
namespace Go.Proofs.Ytbbhgcabebjlhaa
open Go.RowKit
set_option linter.unusedVariables false

theorem edges_plain (w : Int) (w1 : 64 ≤ w) (w2 : w ≤ 16777216) :
    goalG 0 w 0 = w / 4 ∧ goalT 0 w 0 = w / 4 * 3 / 4 ∧ goalG w w 100 = w / 2 * 2 ∧ goalT w w 100 = goalG w w 100 ∧
    goalT (w + 5) w 20000 = goalT w w 10000 ∧ goalG (w + 5) w 20000 = goalG w w 10000 ∧ goalR (w + 5) w 20000 = goalR w w 10000 ∧
    goalT (w / 3) w (-7) = goalT (w / 3) w 0 ∧ goalG (w / 3) w (-7) = goalG (w / 3) w 0 ∧ goalR (w / 3) w (-7) = goalR (w / 3) w 0 ∧
    goalR w w 100 = 67108864 := by
  have a1 : gW w = w := gW_in (by omega) w2
  have a2 : gL 0 w = 0 := gL_in (by omega) w2 (by omega) (by omega)
  have a3 : gL w w = w := gL_in (by omega) w2 (by omega) (by omega)
  have a4 : gL (w + 5) w = w := by unfold gL; rw [a1]; omega
  have p1 : gP 0 = 0 := gP_in (by omega) (by omega)
  have p2 : gP 100 = 100 := gP_in (by omega) (by omega)
  have p3 : gP 20000 = 10000 := by unfold gP; omega
  have p4 : gP 10000 = 10000 := gP_in (by omega) (by omega)
  have p5 : gP (-7) = 0 := by unfold gP; omega
  have g1 : goalG 0 w 0 = w / 4 := by unfold goalG goalIn; rw [a1, a2, p1]; omega
  have g2 : goalG w w 100 = w / 2 * 2 := by unfold goalG goalIn; rw [a1, a3, p2]; omega
  have t2 : goalT w w 100 = goalG w w 100 := by
    have := g2
    unfold goalT trigIn
    rw [a3, g2]; omega
  have e1 : goalG (w + 5) w 20000 = goalG w w 10000 := by unfold goalG; rw [a4, a3, p3, p4]
  have e2 : goalT (w + 5) w 20000 = goalT w w 10000 := by unfold goalT; rw [a4, a3, e1]
  have e3 : goalR (w + 5) w 20000 = goalR w w 10000 := by unfold goalR; rw [a4, a3, e1, e2]
  have f1 : goalG (w / 3) w (-7) = goalG (w / 3) w 0 := by unfold goalG; rw [p5, p1]
  have f2 : goalT (w / 3) w (-7) = goalT (w / 3) w 0 := by unfold goalT; rw [f1]
  have f3 : goalR (w / 3) w (-7) = goalR (w / 3) w 0 := by unfold goalR; rw [f1, f2]
  refine ⟨g1, ?_, g2, t2, e2, e1, e3, f2, f1, f3, ?_⟩
  · unfold goalT trigIn; rw [a2, g1]; omega
  · unfold goalR
    rw [t2, a3]
    unfold ratioV
    have h1 : fAdd (max w 0) 64 = w + 64 := by unfold fAdd; rw [clamp_in (by omega) (by omega)]; omega
    have h2 : max (fSub (goalG w w 100) (goalG w w 100)) 1 = 1 := by unfold fSub; rw [Int.sub_self, clamp_in (by omega) (by omega)]; rfl
    have h3 : fWhole (w + 64) = (w + 64) * 1048576 := clamp_in (by omega) (by omega)
    have h4 : fWhole 1 = 1048576 := by decide
    rw [h1, h2, h3, h4]
    unfold fDiv bnd
    rw [if_neg (by omega), floorDiv_pos (by omega), clamp_in (by omega) (by omega)]
    omega

set_option maxHeartbeats 3200000 in
theorem walk_PacerEdges (words : Int) (_w0 : (Lit.int .i64 words).wf = true) (w : World) :
    Calls Try.prog 5 #[.int .i64 words] w fun e w' => e = .returned (.bool true) ∧ Below w.heap.size w w' := by
  clear _w0
  obtain ⟨k, hk⟩ : ∃ r, (IntKind.u64.wrap words).tmod 16777153 = r := ⟨_, rfl⟩
  obtain ⟨k1, k2⟩ := umod_bd words 16777153 (by omega)
  rw [hk] at k1 k2
  obtain ⟨W, hW⟩ : ∃ x, 64 + k = x := ⟨_, rfl⟩
  have W1 : 64 ≤ W := by omega
  have W2 : W ≤ 16777216 := by omega
  obtain ⟨x1, x2, x3, x4, x5, x6, x7, x8, x9, x10, x11⟩ := edges_plain W W1 W2
  obtain ⟨r0, hr0⟩ : ∃ x, goalR 0 W 0 = x := ⟨_, rfl⟩
  obtain ⟨oT, hoT⟩ : ∃ x, goalT W W 10000 = x := ⟨_, rfl⟩
  obtain ⟨oG, hoG⟩ : ∃ x, goalG W W 10000 = x := ⟨_, rfl⟩
  obtain ⟨oR, hoR⟩ : ∃ x, goalR W W 10000 = x := ⟨_, rfl⟩
  obtain ⟨zT, hzT⟩ : ∃ x, goalT (W / 3) W 0 = x := ⟨_, rfl⟩
  obtain ⟨zG, hzG⟩ : ∃ x, goalG (W / 3) W 0 = x := ⟨_, rfl⟩
  obtain ⟨zR, hzR⟩ : ∃ x, goalR (W / 3) W 0 = x := ⟨_, rfl⟩
  rw [x3] at x4
  rw [hoT] at x5
  rw [hoG] at x6
  rw [hoR] at x7
  rw [hzT] at x8
  rw [hzG] at x9
  rw [hzR] at x10
  have q1 : min (max W 0) 16777216 = W := by omega
  have q2 : min (max (W / 2) 0) W = W / 2 := by omega
  have X1 := Lib.hid x1
  have X2 := Lib.hid x2
  have X3 := Lib.hid x3
  have X4 := Lib.hid x4
  have X5 := Lib.hid x5
  have X6 := Lib.hid x6
  have X7 := Lib.hid x7
  have X8 := Lib.hid x8
  have X9 := Lib.hid x9
  have X10 := Lib.hid x10
  have X11 := Lib.hid x11
  have Hr0 := Lib.hid hr0
  have HoT := Lib.hid hoT
  have HoG := Lib.hid hoG
  have HoR := Lib.hid hoR
  have HzT := Lib.hid hzT
  have HzG := Lib.hid hzG
  have HzR := Lib.hid hzR
  have Q1 := Lib.hid q1
  have Q2 := Lib.hid q2
  clear x1 x2 x3 x4 x5 x6 x7 x8 x9 x10 x11 hr0 hoT hoG hoR hzT hzG hzR q1 q2
  go_enter Try.func5, Try.ntmps5
  go_wp2_with fail
  refine (kgoal X2.out X1.out Hr0.out).mono ?_
  rintro e w1 ⟨rfl, hw⟩
  have Hw1 := Lib.hid hw
  clear hw
  go_wp2_with fail
  refine (kgoal X4.out X3.out X11.out).mono ?_
  rintro e w2 ⟨rfl, hw⟩
  have Hw2 := Lib.hid (Hw1.out.new hw)
  have A2 := Lib.hid (Box.new hw)
  clear hw Hw1
  go_wp2_with fail
  refine (kgoal X5.out X6.out X7.out).mono ?_
  rintro e w3 ⟨rfl, hw⟩
  have Hw3 := Lib.hid (Hw2.out.new hw)
  have A3 := Lib.hid (A2.out.next hw)
  have B3 := Lib.hid (Box.new hw)
  clear hw Hw2 A2
  go_wp2_with fail
  refine (goal_off (W / 2) W 100 W (W / 2) _ Q1.out Q2.out).mono ?_
  rintro e w4 ⟨rfl, hw⟩
  have Hw4 := Lib.hid (Hw3.out.new hw)
  have A4 := Lib.hid (A3.out.next hw)
  have B4 := Lib.hid (B3.out.next hw)
  have C4 := Lib.hid (Box.new hw)
  clear hw Hw3 A3 B3
  go_wp2_with fail
  refine (kgoal X8.out X9.out X10.out).mono ?_
  rintro e w5 ⟨rfl, hw⟩
  have Hw5 := Lib.hid (Hw4.out.new hw)
  have A5 := Lib.hid (A4.out.next hw)
  have B5 := Lib.hid (B4.out.next hw)
  have C5 := Lib.hid (C4.out.next hw)
  have D5 := Lib.hid (Box.new hw)
  clear hw Hw4 A4 B4 C4
  go_wp2_with fail
  refine (kgoal HzT.out HzG.out HzR.out).mono ?_
  rintro e w6 ⟨rfl, hw⟩
  have Hw6 := Lib.hid (Hw5.out.new hw)
  have A6 := Lib.hid (A5.out.next hw)
  have B6 := Lib.hid (B5.out.next hw)
  have C6 := Lib.hid (C5.out.next hw)
  have D6 := Lib.hid (D5.out.next hw)
  have E6 := Lib.hid (Box.new hw)
  clear hw Hw5 A5 B5 C5 D5
  go_wp2_with fail
  have Hw7 := Lib.hid (Hw6.out.trans ((Below.refl _ _).alloc (Nat.le_refl _) (.cells #[.int .i64 zT, .int .i64 zG, .int .i64 zR] 25)))
  have F7 := Lib.hid (Box.fresh w6 #[.int .i64 zT, .int .i64 zG, .int .i64 zR] 25)
  have A7 := Lib.hid (A6.out.next (Ex.refl (w6.alloc (.cells #[.int .i64 zT, .int .i64 zG, .int .i64 zR] 25))))
  have B7 := Lib.hid (B6.out.next (Ex.refl (w6.alloc (.cells #[.int .i64 zT, .int .i64 zG, .int .i64 zR] 25))))
  have C7 := Lib.hid (C6.out.next (Ex.refl (w6.alloc (.cells #[.int .i64 zT, .int .i64 zG, .int .i64 zR] 25))))
  have D7 := Lib.hid (D6.out.next (Ex.refl (w6.alloc (.cells #[.int .i64 zT, .int .i64 zG, .int .i64 zR] 25))))
  have E7 := Lib.hid (E6.out.next (Ex.refl (w6.alloc (.cells #[.int .i64 zT, .int .i64 zG, .int .i64 zR] 25))))
  obtain ⟨W7, hW7⟩ : ∃ W7, W7 = w6.alloc (.cells #[.int .i64 zT, .int .i64 zG, .int .i64 zR] 25) := ⟨_, rfl⟩
  rw [← hW7] at A7 B7 C7 D7 E7 F7 Hw7 ⊢
  have ax0 := fun x => (A7.out.outs x).1
  have ax1 := fun x => (A7.out.outs x).2.1
  have ax2 := fun x => (A7.out.outs x).2.2
  have bx0 := fun x => (B7.out.outs x).1
  have bx1 := fun x => (B7.out.outs x).2.1
  have bx2 := fun x => (B7.out.outs x).2.2
  have cx0 := fun x => (C7.out.outs x).1
  have cx1 := fun x => (C7.out.outs x).2.1
  have cx2 := fun x => (C7.out.outs x).2.2
  have dx0 := fun x => (D7.out.outs x).1
  have dx1 := fun x => (D7.out.outs x).2.1
  have dx2 := fun x => (D7.out.outs x).2.2
  have ex0 := fun x => (E7.out.outs x).1
  have ex1 := fun x => (E7.out.outs x).2.1
  have ex2 := fun x => (E7.out.outs x).2.2
  have fx0 := fun x => (F7.out.outs x).1
  have fx1 := fun x => (F7.out.outs x).2.1
  have fx2 := fun x => (F7.out.outs x).2.2
  clear hW7 A6 B6 C6 D6 E6 Hw6 A7 B7 C7 D7 E7 F7
  refine wp_region_ex (by kernel_rfl) (by kernel_rfl) ?_
  simp only [List.append]
  repeat (go_big_quiet_step (first | (go_at_call 9; exact quiet_ex (told_any _)) | (go_at_call 7; exact quiet_ex (kgoal HoT.out HoG.out HoR.out)) | (go_at_call_of 10 (Value.agg #[.int .i64 W, .int .i64 W, .int .i64 0]); exact quiet_ex (begin_any W W 0 W false _ (.inr (.inr ⟨by simp, by decide, rfl⟩)))) | (go_at_call 10; exact quiet_ex (begin_any (W / 2 * 2) (W / 2 * 2) 67108864 W true _ (.inl ⟨by simp; omega, by decide, rfl⟩)))))
  refine wpQuiet_nil ?_
  rintro _ ⟨⟨w8, hw⟩, rfl⟩
  have Hw8 := Lib.hid (Hw7.out.trans hw)
  clear hw Hw7 ax0 ax1 ax2 bx0 bx1 bx2 cx0 cx1 cx2 dx0 dx1 dx2 ex0 ex1 ex2 fx0 fx1 fx2
  go_wp2_with fail
  go_ret
  exact ⟨rfl, Hw8.out⟩

end Go.Proofs.Ytbbhgcabebjlhaa
