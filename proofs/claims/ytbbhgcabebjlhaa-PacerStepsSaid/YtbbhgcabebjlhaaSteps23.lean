/- PacerSteps: goals stay between a quarter of the heap and all of it; with nothing alive they come back to the quarter: for all numbers and every list. -/
import Derived.Test.YtbbhgcabebjlhaaOrder23
import Derived.Test.YtbbhgcabebjlhaaExQuiet
namespace Go.Proofs.Ytbbhgcabebjlhaa
open Go.RowKit
set_option linter.unusedVariables false

theorem told_ex {w : World} : Calls Try.prog 9 #[] w fun e w' => e = .returned (.bool true) ∧ Ex w w' := told_any w
theorem ratio_ex {scan trigger goal v : Int} {w : World} (h : ratioV scan trigger goal = v) (s1 : -9223372036854775808 ≤ scan) (s2 : scan ≤ 9223372036854775807) (t1 : -9223372036854775808 ≤ trigger) (t2 : trigger ≤ 9223372036854775807) (g1 : -9223372036854775808 ≤ goal) (g2 : goal ≤ 9223372036854775807) :
    Calls Try.prog 8 #[.int .i64 scan, .int .i64 trigger, .int .i64 goal] w fun e w' => e = .returned (.int .i64 v) ∧ Ex w w' :=
  (kratio h s1 s2 t1 t2 g1 g2).mono fun _ _ ⟨he, hw⟩ => ⟨he, hw.ex⟩

/-- A step of the goals. -/
theorem step_plain (W p lv : Int) (W1 : 256 ≤ W) (W2 : W ≤ 1048831) (l1 : 0 ≤ lv) (l2 : lv ≤ W) :
    ¬ goalG lv W p < min (W / 4) (W / 2 + lv / 2) ∧ ¬ W < goalG lv W p ∧ ¬ goalT lv W p < min lv (goalG lv W p) ∧ ratioV lv (goalT lv W p) (goalG lv W p) = goalR lv W p ∧
    0 ≤ goalG lv W p ∧ goalG lv W p ≤ W ∧ 0 ≤ goalT lv W p ∧ goalT lv W p ≤ W := by
  have a1 : gW W = W := gW_in (by omega) (by omega)
  have a2 : gL lv W = lv := gL_in (by omega) (by omega) l1 l2
  obtain ⟨b1, b2, b3, b4⟩ := goal_bd lv W p
  rw [a1] at b2
  have c1 : ¬ goalG lv W p < min (W / 4) (W / 2 + lv / 2) := by
    unfold goalG goalIn; rw [a1, a2]; omega
  have c2 : ¬ goalT lv W p < min lv (goalG lv W p) := by
    unfold goalT trigIn; rw [a2]; omega
  refine ⟨c1, by omega, c2, ?_, b1, b2, b3, by omega⟩
  unfold goalR; rw [a2]

theorem last_plain (W p : Int) (W1 : 256 ≤ W) (W2 : W ≤ 1048831) :
    goalG 0 W p = W / 4 ∧ goalT 0 W p = W / 4 * 3 / 4 ∧ ratioV 0 (W / 4 * 3 / 4) (W / 4) = goalR 0 W p := by
  have a1 : gW W = W := gW_in (by omega) (by omega)
  have a2 : gL 0 W = 0 := gL_in (by omega) (by omega) (by omega) (by omega)
  have g1 : goalG 0 W p = W / 4 := by unfold goalG goalIn; rw [a1, a2, Int.zero_mul]; omega
  have g2 : goalT 0 W p = W / 4 * 3 / 4 := by unfold goalT trigIn; rw [a2, g1]; omega
  exact ⟨g1, g2, by unfold goalR; rw [a2, g2, g1]⟩

theorem Box.soft {w : World} {b : Nat} {x y z : Value} {t : TypeId} (h : Box w b #[x, y, z] t) : w.frozen? ⟨b, 0, none⟩ = false ∧ w.frozen? ⟨b, 1, none⟩ = false ∧ w.frozen? ⟨b, 2, none⟩ = false := by
  unfold Box at h
  simp [World.frozen?, h]
theorem Box.put {w : World} {b : Nat} {x y z : Value} {t : TypeId} (h : Box w b #[x, y, z] t) (x' y' z' : Value) :
    Box (((w.setCell ⟨b, 0, none⟩ x').setCell ⟨b, 1, none⟩ y').setCell ⟨b, 2, none⟩ z') b #[x', y', z'] t := by
  unfold Box at *
  simp [World.setCell, Array.getElem?_modify, h]

set_option maxHeartbeats 3200000 in
set_option maxRecDepth 10000 in
theorem walk_PacerSteps_some (words percent : Int) (a : Option Addr) (len cap : Nat) (zs : List Int) (w : World)
    (hl : len ≤ cap) (hm : cap ≤ 9223372036854775807) (hb : len = 0 ∨ ∃ b off, a = some ⟨b, off, none⟩ ∧ b < w.heap.size ∧ ∀ i, i < len → w.cell? ⟨b, off + i, none⟩ = some (.int .i64 (zs.getD i 0))) :
    Calls Try.prog 3 #[.int .i64 words, .int .i64 percent, .slice a len cap] w fun e w' => e = .returned (.bool true) ∧ Below w.heap.size w w' := by
  obtain ⟨r, hr⟩ : ∃ r, (IntKind.u64.wrap words).tmod 1048576 = r := ⟨_, rfl⟩
  obtain ⟨r1, r2⟩ := umod_bd words 1048576 (by omega)
  rw [hr] at r1 r2
  obtain ⟨p, hp⟩ : ∃ r, (IntKind.u64.wrap percent).tmod 10001 = r := ⟨_, rfl⟩
  obtain ⟨p1, p2⟩ := umod_bd percent 10001 (by omega)
  rw [hp] at p1 p2
  obtain ⟨W, hW⟩ : ∃ x, 256 + r = x := ⟨_, rfl⟩
  have W1 : 256 ≤ W := by omega
  have W2 : W ≤ 1048831 := by omega
  obtain ⟨z1, z2, z3⟩ := last_plain W p W1 W2
  obtain ⟨zR, hzR⟩ : ∃ x, goalR 0 W p = x := ⟨_, rfl⟩
  rw [hzR] at z3
  have Z1 := Lib.hid z1
  have Z2 := Lib.hid z2
  have Z3 := Lib.hid z3
  have HzR := Lib.hid hzR
  have Hb := Lib.hid hb
  clear z1 z2 z3 hzR hb
  go_enter Try.func3, Try.ntmps3
  go_wp2_with fail
  refine (kgoal Z2.out Z1.out HzR.out).mono ?_
  rintro e w1 ⟨rfl, hw⟩
  have Hw1 := Lib.hid hw
  clear hw
  go_wp2_with fail
  have hx1 : w.heap.size ≤ w1.heap.size := Hw1.out.size
  go_loopw [10] (fun iv wr => ∃ (k : Nat) (T G R : Int), k ≤ 20 ∧ 0 ≤ G ∧ G ≤ W ∧ iv = .int .i64 k ∧ Box wr w1.heap.size #[.int .i64 T, .int .i64 G, .int .i64 R] 25 ∧ Ex w wr) (fun iv _ => 20 - (intOf iv).toNat)
  case atStart =>
    refine ⟨0, W / 4 * 3 / 4, W / 4, zR, by omega, by omega, by omega, rfl, Box.fresh _ _ _, ?_⟩
    exact Hw1.out.trans ((Below.refl _ _).alloc (Nat.le_refl _) _)
  case round =>
    obtain ⟨k, T, G, R, k1, G1, G2, rfl, hbox, hw⟩ := hrel
    have Hbox := Lib.hid hbox
    have Hw := Lib.hid hw
    clear hbox hw
    by_cases hk : k < len ∧ k < 20
    · obtain ⟨hk1, hk2⟩ := hk
      have hk1' : (k : Int) < (len : Int) := by omega
      have hk2' : (k : Int) < 20 := by omega
      obtain ⟨b, off, rfl, hbb, hcell⟩ := Hb.out.resolve_left (by omega)
      obtain ⟨z, hzz⟩ : ∃ z, zs.getD k 0 = z := ⟨_, rfl⟩
      have hc : wr.cell? ⟨b, off + k, none⟩ = some (.int .i64 z) := by
        rw [← hzz, ← hcell k hk1]
        exact Hw.out.cell (p := ⟨b, off + k, none⟩) hbb
      obtain ⟨c0, c1, c2⟩ := Hbox.out.three
      have lt1 := Hbox.out.lt
      obtain ⟨m, hm'⟩ : ∃ m, (IntKind.u64.wrap z).tmod 101 = m := ⟨_, rfl⟩
      obtain ⟨m1, m2⟩ := umod_bd z 101 (by omega)
      rw [hm'] at m1 m2
      obtain ⟨P, hP⟩ : ∃ P, G * m = P := ⟨_, rfl⟩
      have P1 : 0 ≤ P := by rw [← hP]; exact Int.mul_nonneg G1 m1
      have P2 : P ≤ W * 100 := by rw [← hP]; exact Int.mul_le_mul G2 (by omega) m1 (by omega)
      obtain ⟨lv, hlv⟩ : ∃ lv, P / 100 = lv := ⟨_, rfl⟩
      have l1 : 0 ≤ lv := by omega
      have l2 : lv ≤ W := by omega
      obtain ⟨s1, s2, s3, s4, s5, s6, s7, s8⟩ := step_plain W p lv W1 W2 l1 l2
      obtain ⟨nT, hnT⟩ : ∃ x, goalT lv W p = x := ⟨_, rfl⟩
      obtain ⟨nG, hnG⟩ : ∃ x, goalG lv W p = x := ⟨_, rfl⟩
      obtain ⟨nR, hnR⟩ : ∃ x, goalR lv W p = x := ⟨_, rfl⟩
      rw [hnG] at s1 s2 s3 s4 s5 s6
      rw [hnT] at s3 s4 s7 s8
      rw [hnR] at s4
      have HnT := Lib.hid hnT
      have HnG := Lib.hid hnG
      have HnR := Lib.hid hnR
      have S4 := Lib.hid s4
      clear hnT hnG hnR s4 hzz hk1 hk2 hcell
      go_wp2_with fail
      go_quiet (fail)
      go_wp2_with fail
      refine (kgoal HnT.out HnG.out HnR.out).mono ?_
      rintro e w2 ⟨rfl, hw⟩
      obtain ⟨wq, hwq⟩ : ∃ wq, Ex wr wq ∧ Ex wq w2 := ⟨_, Dr.ex ⟨_, rfl⟩, hw⟩
      have Hw2 := Lib.hid (Hw.out.trans (hwq.1.trans hwq.2))
      have Hbox2 := Lib.hid ((Hbox.out.ex hwq.1).ex hwq.2)
      have hs2 : wr.heap.size ≤ w2.heap.size := (hwq.1.trans hwq.2).size
      have hs1 : w1.heap.size < wr.heap.size := lt1
      clear hwq hw hc c0 c1 c2
      go_wp2_with fail
      have Hw3 := Lib.hid (Hw2.out.trans ((Below.refl _ _).alloc (Nat.le_refl _) (.cells #[.int .i64 nT, .int .i64 nG, .int .i64 nR] 25)))
      have N3 := Lib.hid (Box.fresh w2 #[.int .i64 nT, .int .i64 nG, .int .i64 nR] 25)
      have B3 := Lib.hid (Hbox2.out.next (Ex.refl (w2.alloc (.cells #[.int .i64 nT, .int .i64 nG, .int .i64 nR] 25))))
      obtain ⟨W3, hW3⟩ : ∃ W3, W3 = w2.alloc (.cells #[.int .i64 nT, .int .i64 nG, .int .i64 nR] 25) := ⟨_, rfl⟩
      rw [← hW3] at Hw3 N3 B3 ⊢
      have nx0 := fun x => (N3.out.outs x).1
      have nx1 := fun x => (N3.out.outs x).2.1
      have nx2 := fun x => (N3.out.outs x).2.2
      have d1 : decide (nG < min (W / 4) (W / 2 + lv / 2)) = false := decide_eq_false (by omega)
      have d2 : decide (W < nG) = false := decide_eq_false (by omega)
      have d3 : decide (nT < min lv nG) = false := decide_eq_false (by omega)
      clear hW3
      refine wp_region_ex (by kernel_rfl) (by kernel_rfl) ?_
      try simp only [List.append]
      repeat (go_big_quiet_step ((go_at_call 8; exact quiet_ex (ratio_ex S4.out (by omega) (by omega) (by omega) (by omega) (by omega) (by omega)))))
      refine wpQuiet_nil ?_
      rintro w4 ⟨⟨wz, hw⟩, rfl⟩
      have N4 := Lib.hid (N3.out.ex hw)
      have B4 := Lib.hid (B3.out.ex hw)
      have Hw4 := Lib.hid (Hw3.out.trans hw)
      clear nx0 nx1 nx2 N3 B3 Hw3 hw
      obtain ⟨n0, n1, n2⟩ := N4.out.three
      obtain ⟨v0, v1, v2⟩ := B4.out.three
      obtain ⟨f0, f1, f2⟩ := B4.out.soft
      have bl4 := B4.out.lt
      have nl4 := N4.out.lt
      go_wp2_with fail
      go_roundw
      case rel =>
        refine ⟨k + 1, nT, nG, nR, by omega, s5, s6, by simp, B4.out.put _ _ _, ?_⟩
        exact ((Hw4.out.setCell (p := ⟨_, 0, none⟩) hx1 _).setCell (p := ⟨_, 1, none⟩) hx1 _).setCell (p := ⟨_, 2, none⟩) hx1 _
      case measure => simp [intOf]; omega
    · have y1 : ratioV 0 0 64 = 1048576 := by decide
      have y2 : ratioV (-5) 10 5 = 67108864 := by decide
      have Y1 := Lib.hid y1
      have Y2 := Lib.hid y2
      clear y1 y2 Hbox
      rcases (by omega : ¬ k < len ∨ (k < len ∧ ¬ k < 20)) with hk1 | ⟨hk1, hk2⟩
      all_goals
        first
        | (have e1 : ¬ (k : Int) < 20 := by omega
           have e2 : (k : Int) < (len : Int) := by omega)
        | have e1 : ¬ (k : Int) < (len : Int) := by omega
        go_wp2_with fail
        refine (kgoal Z2.out Z1.out HzR.out).mono ?_
        rintro e w2 ⟨rfl, hw⟩
        have Hw2 := Lib.hid (Hw.out.trans hw)
        clear hw
        go_wp2_with fail
        have Hw3 := Lib.hid (Hw2.out.trans ((Below.refl _ _).alloc (Nat.le_refl _) (.cells #[.int .i64 (W / 4 * 3 / 4), .int .i64 (W / 4), .int .i64 zR] 25)))
        have N3 := Lib.hid (Box.fresh w2 #[.int .i64 (W / 4 * 3 / 4), .int .i64 (W / 4), .int .i64 zR] 25)
        obtain ⟨W3, hW3⟩ : ∃ W3, W3 = w2.alloc (.cells #[.int .i64 (W / 4 * 3 / 4), .int .i64 (W / 4), .int .i64 zR] 25) := ⟨_, rfl⟩
        rw [← hW3] at Hw3 N3 ⊢
        have nx0 := fun x => (N3.out.outs x).1
        have nx1 := fun x => (N3.out.outs x).2.1
        have nx2 := fun x => (N3.out.outs x).2.2
        clear hW3
        refine wp_region_ex (by kernel_rfl) (by kernel_rfl) ?_
        try simp only [List.append]
        repeat (go_big_quiet_step (first | (go_at_call 9; exact quiet_ex told_ex) | (go_at_call 8; first | exact quiet_ex (ratio_ex Z3.out (by omega) (by omega) (by omega) (by omega) (by omega) (by omega)) | exact quiet_ex (ratio_ex Y1.out (by omega) (by omega) (by omega) (by omega) (by omega) (by omega)) | exact quiet_ex (ratio_ex Y2.out (by omega) (by omega) (by omega) (by omega) (by omega) (by omega)))))
        refine wpQuiet_nil ?_
        rintro w4 ⟨⟨wz, hw⟩, rfl⟩
        have Hw4 := Lib.hid (Hw3.out.trans hw)
        clear nx0 nx1 nx2 N3 Hw3 hw
        go_wp2_with fail
        go_ret
        exact ⟨rfl, Hw4.out⟩

theorem walk_PacerSteps (words percent : Int) (a : Option Addr) (len cap : Nat) (zs : List Int) (w : World)
    (h : (a = none ∧ len = 0 ∧ cap = 0 ∧ zs = []) ∨ ∃ x, a = some x ∧ len ≤ cap ∧ cap ≤ maxLen ∧ zs.length = cap ∧ (∀ i, i < zs.length → w.cell? (x.add i) = some (.int .i64 (zs.getD i 0))) ∧ ∀ n ∈ zs, (Lit.int .i64 n).wf = true) :
    Calls Try.prog 3 #[.int .i64 words, .int .i64 percent, .slice a len cap] w fun e w' => e = .returned (.bool true) ∧ Below w.heap.size w w' := by
  rcases h with ⟨rfl, rfl, rfl, rfl⟩ | ⟨⟨b, off, spot⟩, rfl, hl, hm, hz, hcell, _⟩
  · exact walk_PacerSteps_some words percent _ 0 0 [] w (by omega) (by omega) (.inl rfl)
  · refine walk_PacerSteps_some words percent _ len cap zs w hl hm ?_
    by_cases h0 : len = 0
    · exact .inl h0
    · have hc := hcell 0 (by omega)
      have hspot : spot = none := by simpa [Addr.add] using World.cell?_spot hc
      subst hspot
      refine .inr ⟨b, off, rfl, ?_, ?_⟩
      · simp only [World.cell?, Addr.add, if_pos] at hc
        by_cases hlt : b < w.heap.size
        · exact hlt
        · rw [Array.getElem?_eq_none (by omega)] at hc
          cases hc
      · intro i hi
        rw [← hcell i (by omega)]
        by_cases hi0 : i = 0
        · subst hi0; simp [Addr.add]
        · simp [Addr.add, hi0]

end Go.Proofs.Ytbbhgcabebjlhaa
