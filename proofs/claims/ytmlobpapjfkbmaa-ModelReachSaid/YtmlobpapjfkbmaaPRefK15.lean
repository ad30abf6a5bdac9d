/- The document's kinds, wrong. -/
import Derived.Test.YtmlobpapjfkbmaaPRefW15
namespace Go.Proofs.Ytmlobpapjfkbmaa.C15
open Go.RowKit
set_option linter.unusedVariables false
set_option maxRecDepth 20000
set_option linter.unusedSimpArgs false

def krow (op : Nat) : Array Value := #[.int .i64 ((rk (kd op 0) : Nat) : Int), .int .i64 ((rk (kd op 1) : Nat) : Int), .int .i64 ((rk (kd op 2) : Nat) : Int)]

/-- The table's pointers. -/
def kPtr (H : Nat) : Array Value := #[.slice (some ⟨H, 0, none⟩) 3 3, .slice (some ⟨H + 1, 0, none⟩) 3 3, .slice (some ⟨H + 1 + 1, 0, none⟩) 3 3, .slice (some ⟨H + 1 + 1 + 1, 0, none⟩) 3 3, .slice (some ⟨H + 1 + 1 + 1 + 1, 0, none⟩) 3 3, .slice (some ⟨H + 1 + 1 + 1 + 1 + 1, 0, none⟩) 3 3, .slice (some ⟨H + 1 + 1 + 1 + 1 + 1 + 1, 0, none⟩) 3 3, .slice (some ⟨H + 1 + 1 + 1 + 1 + 1 + 1 + 1, 0, none⟩) 3 3, .slice (some ⟨H + 1 + 1 + 1 + 1 + 1 + 1 + 1 + 1, 0, none⟩) 3 3, .slice (some ⟨H + 1 + 1 + 1 + 1 + 1 + 1 + 1 + 1 + 1, 0, none⟩) 3 3, .slice (some ⟨H + 1 + 1 + 1 + 1 + 1 + 1 + 1 + 1 + 1 + 1, 0, none⟩) 3 3, .slice (some ⟨H + 1 + 1 + 1 + 1 + 1 + 1 + 1 + 1 + 1 + 1 + 1, 0, none⟩) 3 3, .slice (some ⟨H + 1 + 1 + 1 + 1 + 1 + 1 + 1 + 1 + 1 + 1 + 1 + 1, 0, none⟩) 3 3, .slice (some ⟨H + 1 + 1 + 1 + 1 + 1 + 1 + 1 + 1 + 1 + 1 + 1 + 1 + 1, 0, none⟩) 3 3, .slice (some ⟨H + 1 + 1 + 1 + 1 + 1 + 1 + 1 + 1 + 1 + 1 + 1 + 1 + 1 + 1, 0, none⟩) 3 3, .slice (some ⟨H + 1 + 1 + 1 + 1 + 1 + 1 + 1 + 1 + 1 + 1 + 1 + 1 + 1 + 1 + 1, 0, none⟩) 3 3, .slice (some ⟨H + 1 + 1 + 1 + 1 + 1 + 1 + 1 + 1 + 1 + 1 + 1 + 1 + 1 + 1 + 1 + 1, 0, none⟩) 3 3, .slice (some ⟨H + 1 + 1 + 1 + 1 + 1 + 1 + 1 + 1 + 1 + 1 + 1 + 1 + 1 + 1 + 1 + 1 + 1, 0, none⟩) 3 3]
def kObs (H : Nat) : List Obj := [.cells #[.int .i64 0, .int .i64 0, .int .i64 0] 3, .cells #[.int .i64 1, .int .i64 6, .int .i64 0] 3, .cells #[.int .i64 1, .int .i64 1, .int .i64 6] 3, .cells #[.int .i64 1, .int .i64 6, .int .i64 1] 3, .cells #[.int .i64 1, .int .i64 1, .int .i64 0] 3, .cells #[.int .i64 1, .int .i64 0, .int .i64 0] 3, .cells #[.int .i64 1, .int .i64 2, .int .i64 0] 3, .cells #[.int .i64 2, .int .i64 1, .int .i64 0] 3, .cells #[.int .i64 3, .int .i64 1, .int .i64 0] 3, .cells #[.int .i64 0, .int .i64 0, .int .i64 0] 3, .cells #[.int .i64 0, .int .i64 6, .int .i64 6] 3, .cells #[.int .i64 4, .int .i64 0, .int .i64 0] 3, .cells #[.int .i64 4, .int .i64 0, .int .i64 0] 3, .cells #[.int .i64 1, .int .i64 1, .int .i64 0] 3, .cells #[.int .i64 5, .int .i64 0, .int .i64 0] 3, .cells #[.int .i64 1, .int .i64 1, .int .i64 5] 3, .cells #[.int .i64 6, .int .i64 6, .int .i64 0] 3, .cells #[.int .i64 5, .int .i64 0, .int .i64 0] 3, .cells (kPtr H) 44]
theorem kPtr_at (H op : Nat) (h : op < 18) : (kPtr H)[op]? = some (.slice (some ⟨H + op, 0, none⟩) 3 3) := by
  match op, h with
  | 0, _ => rfl
  | 1, _ => rfl
  | 2, _ => rfl
  | 3, _ => rfl
  | 4, _ => rfl
  | 5, _ => rfl
  | 6, _ => rfl
  | 7, _ => rfl
  | 8, _ => rfl
  | 9, _ => rfl
  | 10, _ => rfl
  | 11, _ => rfl
  | 12, _ => rfl
  | 13, _ => rfl
  | 14, _ => rfl
  | 15, _ => rfl
  | 16, _ => rfl
  | 17, _ => rfl
  | n + 18, h => omega
theorem kObs_at (H op : Nat) (h : op < 18) : (kObs H)[op]? = some (.cells (krow op) 3) := by
  match op, h with
  | 0, _ => rfl
  | 1, _ => rfl
  | 2, _ => rfl
  | 3, _ => rfl
  | 4, _ => rfl
  | 5, _ => rfl
  | 6, _ => rfl
  | 7, _ => rfl
  | 8, _ => rfl
  | 9, _ => rfl
  | 10, _ => rfl
  | 11, _ => rfl
  | 12, _ => rfl
  | 13, _ => rfl
  | 14, _ => rfl
  | 15, _ => rfl
  | 16, _ => rfl
  | 17, _ => rfl
  | n + 18, h => omega

set_option maxRecDepth 20000 in
set_option maxHeartbeats 3200000 in
theorem kinds_in (w : World) (op : Nat) (h : op < 18) :
    Calls Try.prog 50 #[.int .i64 (op : Int)] w fun e w' => e = .returned (.slice (some ⟨w.heap.size + op, 0, none⟩) 3 3) ∧ Box w' (w.heap.size + op) (krow op) 3 ∧ Ex w w' := by
  go_enter Try.func50, Try.ntmps50
  go_upto_region 2 with fail
  obtain ⟨W, hW⟩ : ∃ W, W = allocs w (kObs w.heap.size) := ⟨_, rfl⟩
  have E0 : Hid (Ex w W) := Lib.hid (by rw [hW]; exact allocs_ex _ _)
  have B0 : Hid (Box W (w.heap.size + op) (krow op) 3) := Lib.hid (by rw [hW]; exact allocs_at _ _ _ _ (kObs_at _ _ h))
  have hP : Box W (w.heap.size + 18) (kPtr w.heap.size) 44 := by rw [hW]; exact allocs_at _ _ _ _ rfl
  have hc : W.cell? ⟨w.heap.size + 18, op, none⟩ = some (.slice (some ⟨w.heap.size + op, 0, none⟩) 3 3) := by rw [hP.cell op]; exact kPtr_at _ _ h
  change Code.wp _ _ _ _ (allocs w (kObs w.heap.size))
  rw [← hW]
  have hP2 := Lib.hid hP
  clear hW hP
  have q1 : (op : Int) < 18 := by omega
  obtain ⟨kb, hkb⟩ : ∃ kb, kb = w.heap.size + 18 := ⟨_, rfl⟩
  rw [← hkb] at hc
  rw [show w.heap.size + 1 + 1 + 1 + 1 + 1 + 1 + 1 + 1 + 1 + 1 + 1 + 1 + 1 + 1 + 1 + 1 + 1 + 1 = kb from hkb.symm]
  obtain ⟨rb, hrb⟩ : ∃ rb, rb = w.heap.size + op := ⟨_, rfl⟩
  rw [← hrb] at hc B0
  have HRB := Lib.hid hrb
  clear hkb hrb
  go_wp2_with fail
  go_ret
  exact ⟨by rw [HRB.out]; rfl, by rw [← HRB.out]; exact B0.out, E0.out⟩

set_option maxRecDepth 20000 in
set_option maxHeartbeats 3200000 in
theorem kinds_out (w : World) (op : Int) (h : op < 0 ∨ 17 < op) :
    Calls Try.prog 50 #[.int .i64 op] w fun e w' => e = .returned (.slice none 0 0) ∧ Ex w w' := by
  rcases h with h | h
  · go_enter Try.func50, Try.ntmps50
    go_wp2_with fail
    go_ret
    exact ⟨rfl, allocs_ex (kObs w.heap.size) w⟩
  · have h1 : ¬ op < 0 := by omega
    have h2 : (18 : Int) ≤ op := by omega
    go_enter Try.func50, Try.ntmps50
    go_wp2_with fail
    go_ret
    exact ⟨rfl, allocs_ex (kObs w.heap.size) w⟩

theorem krow_cell (op : Nat) : (krow op)[0]? = some (.int .i64 ((rk (kd op 0) : Nat) : Int)) ∧ (krow op)[1]? = some (.int .i64 ((rk (kd op 1) : Nat) : Int)) ∧ (krow op)[2]? = some (.int .i64 ((rk (kd op 2) : Nat) : Int)) := ⟨rfl, rfl, rfl⟩

set_option maxRecDepth 20000 in
set_option maxHeartbeats 6400000 in
theorem rwrong_in (w : World) (g f s a b c : Int) (op : Nat) (h : op < 18) (r : Int) (hr : (if okP g f s op 0 a = false then (1 : Int) else if okP g f s op 1 b = false then 2 else if okP g f s op 2 c = false then 3 else -1) = r) :
    Calls Try.prog 33 #[.agg #[.int .i64 (op : Int), .int .i64 a, .int .i64 b, .int .i64 c], .int .i64 g, .int .i64 f, .int .i64 s] w fun e w' => e = .returned (.int .i64 r) ∧ Ex w w' := by
  have hsn : ∀ (w : World) (a : Option Addr) (n c n' c' : Nat), (binOp .eql 44 (.slice a n c) (.slice none n' c')).run Try.prog w = .ok (.bool a.isNone) w := fun w a n c n' c' => Lib.run_eql_slice_nil w _ _ a n c n' c' Try.underlying44
  obtain ⟨t0, h0⟩ : ∃ t, okP g f s op 0 a = t := ⟨_, rfl⟩
  obtain ⟨t1, h1⟩ : ∃ t, okP g f s op 1 b = t := ⟨_, rfl⟩
  obtain ⟨t2, h2⟩ : ∃ t, okP g f s op 2 c = t := ⟨_, rfl⟩
  rw [h0, h1, h2] at hr
  have F0 := fun W => rfits_any W g f s a (kd op 0) (kd_lt op 0) t0 h0
  have F1 := fun W => rfits_any W g f s b (kd op 1) (kd_lt op 1) t1 h1
  have F2 := fun W => rfits_any W g f s c (kd op 2) (kd_lt op 2) t2 h2
  obtain ⟨k0, k1, k2⟩ := krow_cell op
  obtain ⟨KR, hKR⟩ : ∃ K, krow op = K := ⟨_, rfl⟩
  have KI := Lib.hid (kinds_in (op := op) · h)
  rw [hKR] at KI k0 k1 k2
  generalize ((rk (kd op 0) : Nat) : Int) = q0 at *
  generalize ((rk (kd op 1) : Nat) : Int) = q1 at *
  generalize ((rk (kd op 2) : Nat) : Int) = q2 at *
  have HR := Lib.hid hr
  have K0 := Lib.hid k0
  have K1 := Lib.hid k1
  have K2 := Lib.hid k2
  have G0 := Lib.hid F0
  have G1 := Lib.hid F1
  have G2 := Lib.hid F2
  clear hr h0 h1 h2 hKR k0 k1 k2 F0 F1 F2
  go_enter Try.func33, Try.ntmps33
  go_upto_region 1 with fail
  have e0 := Ex.made w (.cells #[.int .i64 (op : Int), .int .i64 a, .int .i64 b, .int .i64 c] 40)
  have b0 := Box.fresh w #[.int .i64 (op : Int), .int .i64 a, .int .i64 b, .int .i64 c] 40
  obtain ⟨V, hV⟩ : ∃ V, V = w.alloc (.cells #[.int .i64 (op : Int), .int .i64 a, .int .i64 b, .int .i64 c] 40) := ⟨_, rfl⟩
  rw [← hV] at e0 b0 ⊢
  have E0 := Lib.hid e0
  have B0 := Lib.hid b0
  have c0 := b0.cell 0
  clear hV e0 b0
  go_wp2_with fail
  refine (KI.out V).mono ?_
  rintro e w1 ⟨rfl, hb, hx⟩
  have E1 := Lib.hid (E0.out.trans hx)
  have B1 := Lib.hid (B0.out.ex hx)
  have R1 := Lib.hid hb
  obtain ⟨kb, hkb⟩ : ∃ kb, V.heap.size + op = kb := ⟨_, rfl⟩
  rw [hkb] at R1 ⊢
  clear hb hx c0 hkb E0 B0 KI
  have c1 := B1.out.cell 1
  have c2 := B1.out.cell 2
  have c3 := B1.out.cell 3
  go_upto_region 5 with fail
  have e2 := Ex.made w1 (.cells #[.int .i64 a, .int .i64 b, .int .i64 c] 3)
  have n2 := Box.fresh w1 #[.int .i64 a, .int .i64 b, .int .i64 c] 3
  have r2 := R1.out.ex e2
  obtain ⟨nb, hnb⟩ : ∃ nb, w1.heap.size = nb := ⟨_, rfl⟩
  rw [hnb] at n2 ⊢
  obtain ⟨U, hU⟩ : ∃ U, U = w1.alloc (.cells #[.int .i64 a, .int .i64 b, .int .i64 c] 3) := ⟨_, rfl⟩
  rw [← hU] at e2 n2 r2 ⊢
  have E2 := Lib.hid (E1.out.trans e2)
  have y0 : ∀ o : Out U, o.w.cell? ⟨kb, 0, none⟩ = some (.int .i64 q0) := fun o => by rw [r2.out 0 o, K0.out]
  have y1 : ∀ o : Out U, o.w.cell? ⟨kb, 1, none⟩ = some (.int .i64 q1) := fun o => by rw [r2.out 1 o, K1.out]
  have y2 : ∀ o : Out U, o.w.cell? ⟨kb, 2, none⟩ = some (.int .i64 q2) := fun o => by rw [r2.out 2 o, K2.out]
  have x0 : ∀ o : Out U, o.w.cell? ⟨nb, 0, none⟩ = some (.int .i64 a) := fun o => n2.out 0 o
  have x1 : ∀ o : Out U, o.w.cell? ⟨nb, 1, none⟩ = some (.int .i64 b) := fun o => n2.out 1 o
  have x2 : ∀ o : Out U, o.w.cell? ⟨nb, 2, none⟩ = some (.int .i64 c) := fun o => n2.out 2 o
  clear hU hnb e2 n2 r2 c1 c2 c3 E1 B1 R1
  go_wp2_with fail
  refine wp_loop_rounds 4 ?_
  rw [rounds_succ]
  go_upto_region 8 with fail
  refine wp_region_ex (by kernel_rfl) (by kernel_rfl) ?_
  repeat (go_big_quiet_step ((go_at_call 51; exact quiet_ex (G0.out _))))
  refine wpQuiet_nil ?_
  rintro wz ⟨⟨w4, hw⟩, rfl⟩
  have hr := HR.out
  have E3 := Lib.hid (E2.out.trans hw)
  replace y1 : ∀ o : Out wz, o.w.cell? ⟨kb, 1, none⟩ = some (.int .i64 q1) := fun o => y1 ⟨o.1, hw.trans o.2⟩
  replace y2 : ∀ o : Out wz, o.w.cell? ⟨kb, 2, none⟩ = some (.int .i64 q2) := fun o => y2 ⟨o.1, hw.trans o.2⟩
  replace x1 : ∀ o : Out wz, o.w.cell? ⟨nb, 1, none⟩ = some (.int .i64 b) := fun o => x1 ⟨o.1, hw.trans o.2⟩
  replace x2 : ∀ o : Out wz, o.w.cell? ⟨nb, 2, none⟩ = some (.int .i64 c) := fun o => x2 ⟨o.1, hw.trans o.2⟩
  clear y0 x0 hw E2
  cases t0
  · simp at hr
    clear y1 y2 x1 x2
    subst hr
    go_wp2_with fail
    go_ret
    exact ⟨rfl, E3.out⟩
  clear hr
  go_wp2_with fail
  rw [rounds_succ]
  go_upto_region 8 with fail
  refine wp_region_ex (by kernel_rfl) (by kernel_rfl) ?_
  repeat (go_big_quiet_step ((go_at_call 51; exact quiet_ex (G1.out _))))
  refine wpQuiet_nil ?_
  rintro wy ⟨⟨w4, hw⟩, rfl⟩
  have hr := HR.out
  have E4 := Lib.hid (E3.out.trans hw)
  replace y2 : ∀ o : Out wy, o.w.cell? ⟨kb, 2, none⟩ = some (.int .i64 q2) := fun o => y2 ⟨o.1, hw.trans o.2⟩
  replace x2 : ∀ o : Out wy, o.w.cell? ⟨nb, 2, none⟩ = some (.int .i64 c) := fun o => x2 ⟨o.1, hw.trans o.2⟩
  clear y1 x1 hw E3
  cases t1
  · simp at hr
    clear y2 x2
    subst hr
    go_wp2_with fail
    go_ret
    exact ⟨rfl, E4.out⟩
  clear hr
  go_wp2_with fail
  rw [rounds_succ]
  go_upto_region 8 with fail
  refine wp_region_ex (by kernel_rfl) (by kernel_rfl) ?_
  repeat (go_big_quiet_step ((go_at_call 51; exact quiet_ex (G2.out _))))
  refine wpQuiet_nil ?_
  rintro wx ⟨⟨w4, hw⟩, rfl⟩
  have hr := HR.out
  have E5 := Lib.hid (E4.out.trans hw)
  clear y2 x2 hw E4
  cases t2
  · simp at hr
    subst hr
    go_wp2_with fail
    go_ret
    exact ⟨rfl, E5.out⟩
  simp at hr
  subst hr
  go_wp2_with fail
  rw [rounds_succ]
  go_wp2_with fail
  go_ret
  exact ⟨rfl, E5.out⟩

set_option maxRecDepth 20000 in
set_option maxHeartbeats 3200000 in
theorem rwrong_out (w : World) (g f s op a b c : Int) (h : op < 0 ∨ 17 < op) :
    Calls Try.prog 33 #[.agg #[.int .i64 op, .int .i64 a, .int .i64 b, .int .i64 c], .int .i64 g, .int .i64 f, .int .i64 s] w fun e w' => e = .returned (.int .i64 0) ∧ Ex w w' := by
  have hsn : ∀ (w : World) (a : Option Addr) (n c n' c' : Nat), (binOp .eql 44 (.slice a n c) (.slice none n' c')).run Try.prog w = .ok (.bool a.isNone) w := fun w a n c n' c' => Lib.run_eql_slice_nil w _ _ a n c n' c' Try.underlying44
  have KI := Lib.hid (kinds_out · op h)
  clear h
  go_enter Try.func33, Try.ntmps33
  go_wp2_with fail
  refine (KI.out _).mono ?_
  rintro e w1 ⟨rfl, hx⟩
  have E1 := Lib.hid ((Ex.made _ _).trans hx)
  clear hx
  go_wp2_with fail
  go_ret
  exact ⟨rfl, E1.out⟩

theorem rwrong_any (w : World) (x : I4) (g f s : Int) :
    Calls Try.prog 33 #[.agg #[.int .i64 x.1, .int .i64 x.2.1, .int .i64 x.2.2.1, .int .i64 x.2.2.2], .int .i64 g, .int .i64 f, .int .i64 s] w fun e w' => e = .returned (.int .i64 (wrongI g f s x)) ∧ Ex w w' := by
  obtain ⟨op, a, b, c⟩ := x
  by_cases h : op < 0 ∨ 17 < op
  · have e : wrongI g f s (op, a, b, c) = 0 := by unfold wrongI; rw [if_pos h]
    rw [e]
    exact rwrong_out w g f s op a b c h
  · obtain ⟨k, rfl⟩ : ∃ k : Nat, op = (k : Int) := ⟨op.toNat, by omega⟩
    refine rwrong_in w g f s a b c k (by omega) _ ?_
    unfold wrongI
    rw [if_neg h]
    rfl

end Go.Proofs.Ytmlobpapjfkbmaa.C15
