/- Package code: wrong. -/
import Derived.Test.YtmajnjbjoagihaaParts15
import Derived.Deep.RegionHeld3
import Derived.Deep.DrawnRows
namespace Go.Proofs.Ytmajnjbjoagihaa
open Go.RowKit
set_option linter.unusedVariables false
set_option linter.unusedSimpArgs false
attribute [local go_sem ↓] Go.wp_at_zero Go.wp_at_succ

abbrev I4 := Int × Int × Int × Int
def okP (g f s : Int) (op k : Nat) (v : Int) : Bool := decide (0 ≤ v ∧ v < lim g f s (kd op k))
/-- The first part that may not be; -1: none. -/
def wrongI (g f s : Int) (x : I4) : Int :=
  if x.1 < 0 ∨ 17 < x.1 then 0 else if okP g f s x.1.toNat 0 x.2.1 = false then 1 else if okP g f s x.1.toNat 1 x.2.2.1 = false then 2 else if okP g f s x.1.toNat 2 x.2.2.2 = false then 3 else -1

theorem kdT_lt : ∀ x ∈ kdT, x < 7 := by decide
theorem kd_lt (op k : Nat) : kd op k < 7 := by
  unfold kd
  by_cases h : op * 3 + k < kdT.length
  · have e : kdT.getD (op * 3 + k) 0 = kdT[op * 3 + k] := by simp [List.getD, h]
    rw [e]
    exact kdT_lt _ (List.getElem_mem h)
  · have e : kdT.getD (op * 3 + k) 0 = 0 := by simp [List.getD, List.getElem?_eq_none (Nat.le_of_not_lt h)]
    rw [e]; omega

def rowV (op : Nat) : Value := .agg #[.int .i64 (kd op 0 : Nat), .int .i64 (kd op 1 : Nat), .int .i64 (kd op 2 : Nat)]
theorem idx_parts (op : Nat) (h : op < 18) (w : World) : (Instr.index 63 (.agg partsV) (.int .i64 (op : Int))).run Try.prog w = .ok (rowV op) w := by
  match op, h with
  | 0, _ => rfl
  | 1, _ => rfl
  | 2, _ => rfl
  | 3, _ => rfl
  | 4, _ => rfl
  | 5, _ => rfl
  | 6, _ => rfl
  | 7, _ => rfl
  | 8, _ => rfl
  | 9, _ => rfl
  | 10, _ => rfl
  | 11, _ => rfl
  | 12, _ => rfl
  | 13, _ => rfl
  | 14, _ => rfl
  | 15, _ => rfl
  | 16, _ => rfl
  | 17, _ => rfl
  | n + 18, h => omega
theorem idx_three (x y z : Value) (w : World) : (Instr.index 62 (.agg #[x, y, z]) (.int .i64 0)).run Try.prog w = .ok x w ∧ (Instr.index 62 (.agg #[x, y, z]) (.int .i64 1)).run Try.prog w = .ok y w ∧ (Instr.index 62 (.agg #[x, y, z]) (.int .i64 2)).run Try.prog w = .ok z w := ⟨rfl, rfl, rfl⟩

structure FB3 (g f s : Int) : Prop where
  g : 0 ≤ g ∧ g ≤ 100000
  f : 0 ≤ f ∧ f ≤ 100000
  s : 0 ≤ s ∧ s ≤ 100000

theorem fits_kd (W : World) {g f s : Int} (h : FB3 g f s) (op k : Nat) (v : Int) (t : Bool) (ht : okP g f s op k v = t) :
    Calls Try.prog 27 #[.agg #[.int .i64 g, .int .i64 f, .int .i64 s], .int .i64 ((kd op k : Nat) : Int), .int .i64 v] W fun e w' => e = .returned (.bool t) ∧ Ex W w' := by
  rw [← ht]
  exact fits_any W g f s v (kd op k) (kd_lt op k) h.g h.f h.s

theorem ex_drew (w : World) : Ex w w.drew := Ex.drawn w 1
theorem cells6 {W W' : World} {p1 p2 p3 p4 p5 p6 : Addr} {v1 v2 v3 v4 v5 v6 : Value} (h : Ex W W') (k : W.cell? p1 = some v1 ∧ W.cell? p2 = some v2 ∧ W.cell? p3 = some v3 ∧ W.cell? p4 = some v4 ∧ W.cell? p5 = some v5 ∧ W.cell? p6 = some v6) :
    W'.cell? p1 = some v1 ∧ W'.cell? p2 = some v2 ∧ W'.cell? p3 = some v3 ∧ W'.cell? p4 = some v4 ∧ W'.cell? p5 = some v5 ∧ W'.cell? p6 = some v6 :=
  ⟨cell_later h k.1, cell_later h k.2.1, cell_later h k.2.2.1, cell_later h k.2.2.2.1, cell_later h k.2.2.2.2.1, cell_later h k.2.2.2.2.2⟩

set_option maxRecDepth 20000 in
set_option maxHeartbeats 3200000 in
theorem wrong_out (w : World) (g f s op a b c : Int) (h : op < 0 ∨ 17 < op) :
    Calls Try.prog 23 #[.agg #[.int .i64 g, .int .i64 f, .int .i64 s], .agg #[.int .i64 op, .int .i64 a, .int .i64 b, .int .i64 c]] w fun e w' => e = .returned (.int .i64 0) ∧ Ex w w' := by
  rcases h with h | h
  all_goals
    go_enter Try.func23, Try.ntmps23
    go_wp2_with fail
    go_ret
    exact ⟨rfl, (Ex.made _ _).trans (Ex.made _ _)⟩

set_option maxRecDepth 20000 in
set_option maxHeartbeats 6400000 in
theorem wrong_in (w : World) (g f s a b c : Int) (op : Nat) (h : op < 18) (hb : FB3 g f s) (r : Int) (hr : (if okP g f s op 0 a = false then (1 : Int) else if okP g f s op 1 b = false then 2 else if okP g f s op 2 c = false then 3 else -1) = r) :
    Calls Try.prog 23 #[.agg #[.int .i64 g, .int .i64 f, .int .i64 s], .agg #[.int .i64 (op : Int), .int .i64 a, .int .i64 b, .int .i64 c]] w fun e w' => e = .returned (.int .i64 r) ∧ Ex w w' := by
  have ip := idx_parts op h
  obtain ⟨R, hR⟩ : ∃ R, rowV op = R := ⟨_, rfl⟩
  obtain ⟨P, hP⟩ : ∃ R, partsV = R := ⟨_, rfl⟩
  rw [hR, hP] at ip
  have K := parts_any
  rw [hP] at K
  have HK := Lib.hid K
  have HR := Lib.hid hR
  have HB := Lib.hid hb
  have h18 : (op : Int) ≤ 17 := by omega
  clear hR hP K hb
  go_enter Try.func23, Try.ntmps23
  go_upto_region 3 with fail
  have e0 : Ex w ((w.alloc (.cells #[.int .i64 g, .int .i64 f, .int .i64 s] 55)).alloc (.cells #[.int .i64 (op : Int), .int .i64 a, .int .i64 b, .int .i64 c] 45)) := (Ex.made _ _).trans (Ex.made _ _)
  have b1 : Box ((w.alloc (.cells #[.int .i64 g, .int .i64 f, .int .i64 s] 55)).alloc (.cells #[.int .i64 (op : Int), .int .i64 a, .int .i64 b, .int .i64 c] 45)) w.heap.size #[.int .i64 g, .int .i64 f, .int .i64 s] 55 := (Box.fresh w _ _).ex (Ex.made _ _)
  have b2 : Box ((w.alloc (.cells #[.int .i64 g, .int .i64 f, .int .i64 s] 55)).alloc (.cells #[.int .i64 (op : Int), .int .i64 a, .int .i64 b, .int .i64 c] 45)) (w.heap.size + 1) #[.int .i64 (op : Int), .int .i64 a, .int .i64 b, .int .i64 c] 45 := by
    have := Box.fresh (w.alloc (.cells #[.int .i64 g, .int .i64 f, .int .i64 s] 55)) #[.int .i64 (op : Int), .int .i64 a, .int .i64 b, .int .i64 c] 45
    simpa using this
  obtain ⟨V, hV⟩ : ∃ V, V = ((w.alloc (.cells #[.int .i64 g, .int .i64 f, .int .i64 s] 55)).alloc (.cells #[.int .i64 (op : Int), .int .i64 a, .int .i64 b, .int .i64 c] 45)) := ⟨_, rfl⟩
  rw [← hV] at e0 b1 b2 ⊢
  clear hV
  have E0 := Lib.hid e0
  have B1 := Lib.hid b1
  have B2 := Lib.hid b2
  have o0 := b2.out 0
  clear e0 b1 b2
  refine wp_region_ex (by kernel_rfl) (by kernel_rfl) ?_
  repeat (go_big_quiet_step ((go_at_call 26; exact quiet_ex (HK.out _))))
  refine wpQuiet_nil ?_
  rintro w4 ⟨⟨wz, hw⟩, rfl⟩
  have E1 := Lib.hid (E0.out.trans hw)
  have B3 := Lib.hid (B1.out.ex hw)
  have B4 := Lib.hid (B2.out.ex hw)
  clear hw o0
  rw [← HR.out]
  unfold rowV
  have FK0 := fun W => fits_kd W HB.out op 0 a _ rfl
  have FK1 := fun W => fits_kd W HB.out op 1 b _ rfl
  have FK2 := fun W => fits_kd W HB.out op 2 c _ rfl
  generalize ((kd op 0 : Nat) : Int) = q0 at *
  generalize ((kd op 1 : Nat) : Int) = q1 at *
  generalize ((kd op 2 : Nat) : Int) = q2 at *
  obtain ⟨t0, h0⟩ : ∃ t, okP g f s op 0 a = t := ⟨_, rfl⟩
  obtain ⟨t1, h1⟩ : ∃ t, okP g f s op 1 b = t := ⟨_, rfl⟩
  obtain ⟨t2, h2⟩ : ∃ t, okP g f s op 2 c = t := ⟨_, rfl⟩
  rw [h0] at FK0 hr
  rw [h1] at FK1 hr
  rw [h2] at FK2 hr
  have FH0 := Lib.hid FK0
  have FH1 := Lib.hid FK1
  have FH2 := Lib.hid FK2
  have HRR := Lib.hid hr
  have idx := fun W => idx_three (.int .i64 q0) (.int .i64 q1) (.int .i64 q2) W
  have IX := Lib.hid idx
  clear FK0 FK1 FK2 h0 h1 h2 hr HR ip idx
  go_wp2_with fail
  go_loopw [19] (fun iv wr => ∃ k : Nat, k ≤ 3 ∧ iv = .int .i64 k ∧ (∀ j, j < k → [t0, t1, t2].getD j true = true) ∧ Ex w wr ∧ Box wr w.heap.size #[.int .i64 g, .int .i64 f, .int .i64 s] 55 ∧ Box wr (w.heap.size + 1) #[.int .i64 (op : Int), .int .i64 a, .int .i64 b, .int .i64 c] 45) (fun iv _ => 3 - (intOf iv).toNat)
  case atStart => exact ⟨0, by omega, rfl, fun j hj => absurd hj (Nat.not_lt_zero j), E1.out, B3.out, B4.out⟩
  case round =>
    obtain ⟨k, hk, rfl, hok, hx, hb1, hb2⟩ := hrel
    have OK := Lib.hid hok
    have X := Lib.hid hx
    have C1 := Lib.hid hb1
    have C2 := Lib.hid hb2
    have f0 : wr.cell? ⟨w.heap.size, 0, none⟩ = some (.int .i64 g) := hb1.cell 0
    have f1 : wr.cell? ⟨w.heap.size, 1, none⟩ = some (.int .i64 f) := hb1.cell 1
    have f2 : wr.cell? ⟨w.heap.size, 2, none⟩ = some (.int .i64 s) := hb1.cell 2
    have x1 : wr.cell? ⟨w.heap.size + 1, 1, none⟩ = some (.int .i64 a) := hb2.cell 1
    have x2 : wr.cell? ⟨w.heap.size + 1, 2, none⟩ = some (.int .i64 b) := hb2.cell 2
    have x3 : wr.cell? ⟨w.heap.size + 1, 3, none⟩ = some (.int .i64 c) := hb2.cell 3
    clear hok hx hb1 hb2 E1 B3 B4
    by_cases hlt : k < 3
    · rcases (by omega : k = 0 ∨ k = 1 ∨ k = 2) with hk0 | hk1 | hk2
      · subst hk0
        have ix := fun W => (IX.out W).1
        rw [show ((0 : Nat) : Int) = 0 from rfl]
        go_upto_region 6 with fail
        have l1 := C1.out.lt
        have l2 := C2.out.lt
        refine wp_region_held_drew (S := fun w' => w'.cell? ⟨w.heap.size, 0, none⟩ = some (.int .i64 g) ∧ w'.cell? ⟨w.heap.size, 1, none⟩ = some (.int .i64 f) ∧ w'.cell? ⟨w.heap.size, 2, none⟩ = some (.int .i64 s) ∧ w'.cell? ⟨w.heap.size + 1, 1, none⟩ = some (.int .i64 a) ∧ w'.cell? ⟨w.heap.size + 1, 2, none⟩ = some (.int .i64 b) ∧ w'.cell? ⟨w.heap.size + 1, 3, none⟩ = some (.int .i64 c)) (by kernel_rfl) ?_ (fun hHeld => ?_)
        · go_keep
        refine wpAnyH_take (i := 0) (v := ?_) rfl (by kernel_rfl) (by kernel_rfl) (by kernel_rfl) (fun _ _ _ h => h) (Or.inl ⟨by rfl, ?_⟩) (by assumption) ?_
        rotate_left
        · intro w hSw; (try dsimp only at hSw); go_simp; try with_reducible rfl
        try simp only [Act.put, List.setIfInBounds_toArray, List.set_cons_zero, List.set_cons_succ]
        refine wpAnyH_take (i := 1) (v := ?_) rfl (by kernel_rfl) (by kernel_rfl) (by kernel_rfl) (fun _ _ _ h => h) (Or.inl ⟨by rfl, ?_⟩) (by assumption) ?_
        rotate_left
        · intro w hSw; (try dsimp only at hSw); go_simp; try with_reducible rfl
        try simp only [Act.put, List.setIfInBounds_toArray, List.set_cons_zero, List.set_cons_succ]
        refine wpAnyH_take (i := 2) (v := ?_) rfl (by kernel_rfl) (by kernel_rfl) (by kernel_rfl) (fun _ _ _ h => h) (Or.inl ⟨by rfl, ?_⟩) (by assumption) ?_
        rotate_left
        · intro w hSw; (try dsimp only at hSw); go_simp; try with_reducible rfl
        try simp only [Act.put, List.setIfInBounds_toArray, List.set_cons_zero, List.set_cons_succ]
        refine wpAnyH_take (i := 3) (v := ?_) rfl (by kernel_rfl) (by kernel_rfl) (by kernel_rfl) (fun _ _ _ h => h) (Or.inl ⟨by rfl, ?_⟩) (by assumption) ?_
        rotate_left
        · intro w hSw; (try dsimp only at hSw); go_simp; try with_reducible rfl
        try simp only [Act.put, List.setIfInBounds_toArray, List.set_cons_zero, List.set_cons_succ]
        refine wpAnyH_take (i := 4) (v := ?_) rfl (by kernel_rfl) (by kernel_rfl) (by kernel_rfl) (fun _ _ _ h => h) (Or.inl ⟨by rfl, ?_⟩) (by assumption) ?_
        rotate_left
        · intro w hSw; (try dsimp only at hSw); go_simp; try with_reducible rfl
        try simp only [Act.put, List.setIfInBounds_toArray, List.set_cons_zero, List.set_cons_succ]
        refine wpAnyH_take (i := 5) (v := ?_) rfl (by kernel_rfl) (by kernel_rfl) (by kernel_rfl) (fun _ _ _ h => h) (Or.inl ⟨by rfl, ?_⟩) (by assumption) ?_
        rotate_left
        · intro w hSw; (try dsimp only at hSw); go_simp; try with_reducible rfl
        try simp only [Act.put, List.setIfInBounds_toArray, List.set_cons_zero, List.set_cons_succ]
        refine wpAnyH_take (i := 6) (v := ?_) rfl (by kernel_rfl) (by kernel_rfl) (by kernel_rfl) (fun _ _ _ h => h) (Or.inl ⟨by rfl, ?_⟩) (by assumption) ?_
        rotate_left
        · intro w hSw; (try dsimp only at hSw); go_simp; try with_reducible rfl
        try simp only [Act.put, List.setIfInBounds_toArray, List.set_cons_zero, List.set_cons_succ]
        refine wpAnyH_take (i := 7) (v := ?_) rfl (by kernel_rfl) (by kernel_rfl) (by kernel_rfl) (fun _ _ _ h => h) (Or.inl ⟨by rfl, ?_⟩) (by assumption) ?_
        rotate_left
        · intro w hSw; (try dsimp only at hSw); go_simp; try with_reducible rfl
        try simp only [Act.put, List.setIfInBounds_toArray, List.set_cons_zero, List.set_cons_succ]
        refine wpAnyH_take (i := 9) (v := ?_) rfl (by kernel_rfl) (by kernel_rfl) (by kernel_rfl) (fun _ _ _ h => h) (Or.inl ⟨by rfl, ?_⟩) (by assumption) ?_
        rotate_left
        · intro w hSw; (try dsimp only at hSw); go_simp; try with_reducible rfl
        try simp only [Act.put, List.setIfInBounds_toArray, List.set_cons_zero, List.set_cons_succ]
        refine wpAnyH_ready (rs := [8]) (by kernel_rfl) (by simp) ?_
        refine AllReadyH.cons rfl (fun K hK => ?_) AllReadyH.nil
        go_simp
        refine hK.out _ _ ?_ (fun hHeld => ?_)
        · first | go_keep | exact cells6 h5 (by assumption)
        clear hK K
        try simp only [Act.put, List.setIfInBounds_toArray, List.set_cons_zero, List.set_cons_succ]
        refine wpAnyH_take (i := 10) (v := ?_) rfl (by kernel_rfl) (by kernel_rfl) (by kernel_rfl) (fun _ _ _ h => h) (Or.inl ⟨by rfl, ?_⟩) (by assumption) ?_
        rotate_left
        · intro w hSw; (try dsimp only at hSw); go_simp; try with_reducible rfl
        try simp only [Act.put, List.setIfInBounds_toArray, List.set_cons_zero, List.set_cons_succ]
        refine wpAnyH_ready (rs := [11]) (by kernel_rfl) (by simp) ?_
        refine AllReadyH.cons rfl (fun K hK => ?_) AllReadyH.nil
        go_simp
        refine hK.out _ _ ?_ (fun hHeld => ?_)
        · first | go_keep | exact cells6 h5 (by assumption)
        clear hK K
        try simp only [Act.put, List.setIfInBounds_toArray, List.set_cons_zero, List.set_cons_succ]
        refine wpAnyH_ready (rs := [12]) (by kernel_rfl) (by simp) ?_
        refine AllReadyH.cons rfl (fun K hK => ?_) AllReadyH.nil
        (go_simp; go_at_call 27; (with_reducible refine (FH0.out _).mono ?_); rintro e w5 ⟨rfl, h5⟩; try dsimp only)
        refine hK.out _ _ ?_ (fun hHeld => ?_)
        · first | go_keep | exact cells6 h5 (by assumption)
        clear hK K
        try simp only [Act.put, List.setIfInBounds_toArray, List.set_cons_zero, List.set_cons_succ]
        refine wpAnyH_take (i := 13) (v := ?_) rfl (by kernel_rfl) (by kernel_rfl) (by kernel_rfl) (fun _ _ _ h => h) (Or.inl ⟨by rfl, ?_⟩) (by assumption) ?_
        rotate_left
        · intro w hSw; (try dsimp only at hSw); go_simp; try with_reducible rfl
        try simp only [Act.put, List.setIfInBounds_toArray, List.set_cons_zero, List.set_cons_succ]
        refine wpAnyH_done (by kernel_rfl) ?_ _
        have X5 := Lib.hid (((ex_drew wr).trans (Ex.made _ _)).trans h5)
        clear h5 f0 f1 f2 x1 x2 x3 hHeld
        cases t0 with
        | true =>
          go_wp2_with fail
          go_roundw
          case rel =>
            refine ⟨1, by omega, by go_num, ?_, X.out.trans X5.out, C1.out.ex X5.out, C2.out.ex X5.out⟩
            intro j hj
            by_cases e : j = 0
            · subst e; rfl
            · exact OK.out j (by omega)
          case measure => simp [intOf]
        | false =>
          go_wp2_with fail
          go_ret
          have hr := HRR.out
          simp at hr
          exact ⟨by rw [← hr]; rfl, X.out.trans X5.out⟩
      · subst hk1
        have ix := fun W => (IX.out W).2.1
        rw [show ((1 : Nat) : Int) = 1 from rfl]
        go_upto_region 6 with fail
        have l1 := C1.out.lt
        have l2 := C2.out.lt
        refine wp_region_held_drew (S := fun w' => w'.cell? ⟨w.heap.size, 0, none⟩ = some (.int .i64 g) ∧ w'.cell? ⟨w.heap.size, 1, none⟩ = some (.int .i64 f) ∧ w'.cell? ⟨w.heap.size, 2, none⟩ = some (.int .i64 s) ∧ w'.cell? ⟨w.heap.size + 1, 1, none⟩ = some (.int .i64 a) ∧ w'.cell? ⟨w.heap.size + 1, 2, none⟩ = some (.int .i64 b) ∧ w'.cell? ⟨w.heap.size + 1, 3, none⟩ = some (.int .i64 c)) (by kernel_rfl) ?_ (fun hHeld => ?_)
        · go_keep
        refine wpAnyH_take (i := 0) (v := ?_) rfl (by kernel_rfl) (by kernel_rfl) (by kernel_rfl) (fun _ _ _ h => h) (Or.inl ⟨by rfl, ?_⟩) (by assumption) ?_
        rotate_left
        · intro w hSw; (try dsimp only at hSw); go_simp; try with_reducible rfl
        try simp only [Act.put, List.setIfInBounds_toArray, List.set_cons_zero, List.set_cons_succ]
        refine wpAnyH_take (i := 1) (v := ?_) rfl (by kernel_rfl) (by kernel_rfl) (by kernel_rfl) (fun _ _ _ h => h) (Or.inl ⟨by rfl, ?_⟩) (by assumption) ?_
        rotate_left
        · intro w hSw; (try dsimp only at hSw); go_simp; try with_reducible rfl
        try simp only [Act.put, List.setIfInBounds_toArray, List.set_cons_zero, List.set_cons_succ]
        refine wpAnyH_take (i := 2) (v := ?_) rfl (by kernel_rfl) (by kernel_rfl) (by kernel_rfl) (fun _ _ _ h => h) (Or.inl ⟨by rfl, ?_⟩) (by assumption) ?_
        rotate_left
        · intro w hSw; (try dsimp only at hSw); go_simp; try with_reducible rfl
        try simp only [Act.put, List.setIfInBounds_toArray, List.set_cons_zero, List.set_cons_succ]
        refine wpAnyH_take (i := 3) (v := ?_) rfl (by kernel_rfl) (by kernel_rfl) (by kernel_rfl) (fun _ _ _ h => h) (Or.inl ⟨by rfl, ?_⟩) (by assumption) ?_
        rotate_left
        · intro w hSw; (try dsimp only at hSw); go_simp; try with_reducible rfl
        try simp only [Act.put, List.setIfInBounds_toArray, List.set_cons_zero, List.set_cons_succ]
        refine wpAnyH_take (i := 4) (v := ?_) rfl (by kernel_rfl) (by kernel_rfl) (by kernel_rfl) (fun _ _ _ h => h) (Or.inl ⟨by rfl, ?_⟩) (by assumption) ?_
        rotate_left
        · intro w hSw; (try dsimp only at hSw); go_simp; try with_reducible rfl
        try simp only [Act.put, List.setIfInBounds_toArray, List.set_cons_zero, List.set_cons_succ]
        refine wpAnyH_take (i := 5) (v := ?_) rfl (by kernel_rfl) (by kernel_rfl) (by kernel_rfl) (fun _ _ _ h => h) (Or.inl ⟨by rfl, ?_⟩) (by assumption) ?_
        rotate_left
        · intro w hSw; (try dsimp only at hSw); go_simp; try with_reducible rfl
        try simp only [Act.put, List.setIfInBounds_toArray, List.set_cons_zero, List.set_cons_succ]
        refine wpAnyH_take (i := 6) (v := ?_) rfl (by kernel_rfl) (by kernel_rfl) (by kernel_rfl) (fun _ _ _ h => h) (Or.inl ⟨by rfl, ?_⟩) (by assumption) ?_
        rotate_left
        · intro w hSw; (try dsimp only at hSw); go_simp; try with_reducible rfl
        try simp only [Act.put, List.setIfInBounds_toArray, List.set_cons_zero, List.set_cons_succ]
        refine wpAnyH_take (i := 7) (v := ?_) rfl (by kernel_rfl) (by kernel_rfl) (by kernel_rfl) (fun _ _ _ h => h) (Or.inl ⟨by rfl, ?_⟩) (by assumption) ?_
        rotate_left
        · intro w hSw; (try dsimp only at hSw); go_simp; try with_reducible rfl
        try simp only [Act.put, List.setIfInBounds_toArray, List.set_cons_zero, List.set_cons_succ]
        refine wpAnyH_take (i := 9) (v := ?_) rfl (by kernel_rfl) (by kernel_rfl) (by kernel_rfl) (fun _ _ _ h => h) (Or.inl ⟨by rfl, ?_⟩) (by assumption) ?_
        rotate_left
        · intro w hSw; (try dsimp only at hSw); go_simp; try with_reducible rfl
        try simp only [Act.put, List.setIfInBounds_toArray, List.set_cons_zero, List.set_cons_succ]
        refine wpAnyH_ready (rs := [8]) (by kernel_rfl) (by simp) ?_
        refine AllReadyH.cons rfl (fun K hK => ?_) AllReadyH.nil
        go_simp
        refine hK.out _ _ ?_ (fun hHeld => ?_)
        · first | go_keep | exact cells6 h5 (by assumption)
        clear hK K
        try simp only [Act.put, List.setIfInBounds_toArray, List.set_cons_zero, List.set_cons_succ]
        refine wpAnyH_take (i := 10) (v := ?_) rfl (by kernel_rfl) (by kernel_rfl) (by kernel_rfl) (fun _ _ _ h => h) (Or.inl ⟨by rfl, ?_⟩) (by assumption) ?_
        rotate_left
        · intro w hSw; (try dsimp only at hSw); go_simp; try with_reducible rfl
        try simp only [Act.put, List.setIfInBounds_toArray, List.set_cons_zero, List.set_cons_succ]
        refine wpAnyH_ready (rs := [11]) (by kernel_rfl) (by simp) ?_
        refine AllReadyH.cons rfl (fun K hK => ?_) AllReadyH.nil
        go_simp
        refine hK.out _ _ ?_ (fun hHeld => ?_)
        · first | go_keep | exact cells6 h5 (by assumption)
        clear hK K
        try simp only [Act.put, List.setIfInBounds_toArray, List.set_cons_zero, List.set_cons_succ]
        refine wpAnyH_ready (rs := [12]) (by kernel_rfl) (by simp) ?_
        refine AllReadyH.cons rfl (fun K hK => ?_) AllReadyH.nil
        (go_simp; go_at_call 27; (with_reducible refine (FH1.out _).mono ?_); rintro e w5 ⟨rfl, h5⟩; try dsimp only)
        refine hK.out _ _ ?_ (fun hHeld => ?_)
        · first | go_keep | exact cells6 h5 (by assumption)
        clear hK K
        try simp only [Act.put, List.setIfInBounds_toArray, List.set_cons_zero, List.set_cons_succ]
        refine wpAnyH_take (i := 13) (v := ?_) rfl (by kernel_rfl) (by kernel_rfl) (by kernel_rfl) (fun _ _ _ h => h) (Or.inl ⟨by rfl, ?_⟩) (by assumption) ?_
        rotate_left
        · intro w hSw; (try dsimp only at hSw); go_simp; try with_reducible rfl
        try simp only [Act.put, List.setIfInBounds_toArray, List.set_cons_zero, List.set_cons_succ]
        refine wpAnyH_done (by kernel_rfl) ?_ _
        have X5 := Lib.hid (((ex_drew wr).trans (Ex.made _ _)).trans h5)
        clear h5 f0 f1 f2 x1 x2 x3 hHeld
        cases t1 with
        | true =>
          go_wp2_with fail
          go_roundw
          case rel =>
            refine ⟨2, by omega, by go_num, ?_, X.out.trans X5.out, C1.out.ex X5.out, C2.out.ex X5.out⟩
            intro j hj
            by_cases e : j = 1
            · subst e; rfl
            · exact OK.out j (by omega)
          case measure => simp [intOf]
        | false =>
          go_wp2_with fail
          have p0 : t0 = true := OK.out 0 (by omega)
          go_ret
          have hr := HRR.out
          simp [p0] at hr
          exact ⟨by rw [← hr]; rfl, X.out.trans X5.out⟩
      · subst hk2
        have ix := fun W => (IX.out W).2.2
        rw [show ((2 : Nat) : Int) = 2 from rfl]
        go_upto_region 6 with fail
        have l1 := C1.out.lt
        have l2 := C2.out.lt
        refine wp_region_held_drew (S := fun w' => w'.cell? ⟨w.heap.size, 0, none⟩ = some (.int .i64 g) ∧ w'.cell? ⟨w.heap.size, 1, none⟩ = some (.int .i64 f) ∧ w'.cell? ⟨w.heap.size, 2, none⟩ = some (.int .i64 s) ∧ w'.cell? ⟨w.heap.size + 1, 1, none⟩ = some (.int .i64 a) ∧ w'.cell? ⟨w.heap.size + 1, 2, none⟩ = some (.int .i64 b) ∧ w'.cell? ⟨w.heap.size + 1, 3, none⟩ = some (.int .i64 c)) (by kernel_rfl) ?_ (fun hHeld => ?_)
        · go_keep
        refine wpAnyH_take (i := 0) (v := ?_) rfl (by kernel_rfl) (by kernel_rfl) (by kernel_rfl) (fun _ _ _ h => h) (Or.inl ⟨by rfl, ?_⟩) (by assumption) ?_
        rotate_left
        · intro w hSw; (try dsimp only at hSw); go_simp; try with_reducible rfl
        try simp only [Act.put, List.setIfInBounds_toArray, List.set_cons_zero, List.set_cons_succ]
        refine wpAnyH_take (i := 1) (v := ?_) rfl (by kernel_rfl) (by kernel_rfl) (by kernel_rfl) (fun _ _ _ h => h) (Or.inl ⟨by rfl, ?_⟩) (by assumption) ?_
        rotate_left
        · intro w hSw; (try dsimp only at hSw); go_simp; try with_reducible rfl
        try simp only [Act.put, List.setIfInBounds_toArray, List.set_cons_zero, List.set_cons_succ]
        refine wpAnyH_take (i := 2) (v := ?_) rfl (by kernel_rfl) (by kernel_rfl) (by kernel_rfl) (fun _ _ _ h => h) (Or.inl ⟨by rfl, ?_⟩) (by assumption) ?_
        rotate_left
        · intro w hSw; (try dsimp only at hSw); go_simp; try with_reducible rfl
        try simp only [Act.put, List.setIfInBounds_toArray, List.set_cons_zero, List.set_cons_succ]
        refine wpAnyH_take (i := 3) (v := ?_) rfl (by kernel_rfl) (by kernel_rfl) (by kernel_rfl) (fun _ _ _ h => h) (Or.inl ⟨by rfl, ?_⟩) (by assumption) ?_
        rotate_left
        · intro w hSw; (try dsimp only at hSw); go_simp; try with_reducible rfl
        try simp only [Act.put, List.setIfInBounds_toArray, List.set_cons_zero, List.set_cons_succ]
        refine wpAnyH_take (i := 4) (v := ?_) rfl (by kernel_rfl) (by kernel_rfl) (by kernel_rfl) (fun _ _ _ h => h) (Or.inl ⟨by rfl, ?_⟩) (by assumption) ?_
        rotate_left
        · intro w hSw; (try dsimp only at hSw); go_simp; try with_reducible rfl
        try simp only [Act.put, List.setIfInBounds_toArray, List.set_cons_zero, List.set_cons_succ]
        refine wpAnyH_take (i := 5) (v := ?_) rfl (by kernel_rfl) (by kernel_rfl) (by kernel_rfl) (fun _ _ _ h => h) (Or.inl ⟨by rfl, ?_⟩) (by assumption) ?_
        rotate_left
        · intro w hSw; (try dsimp only at hSw); go_simp; try with_reducible rfl
        try simp only [Act.put, List.setIfInBounds_toArray, List.set_cons_zero, List.set_cons_succ]
        refine wpAnyH_take (i := 6) (v := ?_) rfl (by kernel_rfl) (by kernel_rfl) (by kernel_rfl) (fun _ _ _ h => h) (Or.inl ⟨by rfl, ?_⟩) (by assumption) ?_
        rotate_left
        · intro w hSw; (try dsimp only at hSw); go_simp; try with_reducible rfl
        try simp only [Act.put, List.setIfInBounds_toArray, List.set_cons_zero, List.set_cons_succ]
        refine wpAnyH_take (i := 7) (v := ?_) rfl (by kernel_rfl) (by kernel_rfl) (by kernel_rfl) (fun _ _ _ h => h) (Or.inl ⟨by rfl, ?_⟩) (by assumption) ?_
        rotate_left
        · intro w hSw; (try dsimp only at hSw); go_simp; try with_reducible rfl
        try simp only [Act.put, List.setIfInBounds_toArray, List.set_cons_zero, List.set_cons_succ]
        refine wpAnyH_take (i := 9) (v := ?_) rfl (by kernel_rfl) (by kernel_rfl) (by kernel_rfl) (fun _ _ _ h => h) (Or.inl ⟨by rfl, ?_⟩) (by assumption) ?_
        rotate_left
        · intro w hSw; (try dsimp only at hSw); go_simp; try with_reducible rfl
        try simp only [Act.put, List.setIfInBounds_toArray, List.set_cons_zero, List.set_cons_succ]
        refine wpAnyH_ready (rs := [8]) (by kernel_rfl) (by simp) ?_
        refine AllReadyH.cons rfl (fun K hK => ?_) AllReadyH.nil
        go_simp
        refine hK.out _ _ ?_ (fun hHeld => ?_)
        · first | go_keep | exact cells6 h5 (by assumption)
        clear hK K
        try simp only [Act.put, List.setIfInBounds_toArray, List.set_cons_zero, List.set_cons_succ]
        refine wpAnyH_take (i := 10) (v := ?_) rfl (by kernel_rfl) (by kernel_rfl) (by kernel_rfl) (fun _ _ _ h => h) (Or.inl ⟨by rfl, ?_⟩) (by assumption) ?_
        rotate_left
        · intro w hSw; (try dsimp only at hSw); go_simp; try with_reducible rfl
        try simp only [Act.put, List.setIfInBounds_toArray, List.set_cons_zero, List.set_cons_succ]
        refine wpAnyH_ready (rs := [11]) (by kernel_rfl) (by simp) ?_
        refine AllReadyH.cons rfl (fun K hK => ?_) AllReadyH.nil
        go_simp
        refine hK.out _ _ ?_ (fun hHeld => ?_)
        · first | go_keep | exact cells6 h5 (by assumption)
        clear hK K
        try simp only [Act.put, List.setIfInBounds_toArray, List.set_cons_zero, List.set_cons_succ]
        refine wpAnyH_ready (rs := [12]) (by kernel_rfl) (by simp) ?_
        refine AllReadyH.cons rfl (fun K hK => ?_) AllReadyH.nil
        (go_simp; go_at_call 27; (with_reducible refine (FH2.out _).mono ?_); rintro e w5 ⟨rfl, h5⟩; try dsimp only)
        refine hK.out _ _ ?_ (fun hHeld => ?_)
        · first | go_keep | exact cells6 h5 (by assumption)
        clear hK K
        try simp only [Act.put, List.setIfInBounds_toArray, List.set_cons_zero, List.set_cons_succ]
        refine wpAnyH_take (i := 13) (v := ?_) rfl (by kernel_rfl) (by kernel_rfl) (by kernel_rfl) (fun _ _ _ h => h) (Or.inl ⟨by rfl, ?_⟩) (by assumption) ?_
        rotate_left
        · intro w hSw; (try dsimp only at hSw); go_simp; try with_reducible rfl
        try simp only [Act.put, List.setIfInBounds_toArray, List.set_cons_zero, List.set_cons_succ]
        refine wpAnyH_done (by kernel_rfl) ?_ _
        have X5 := Lib.hid (((ex_drew wr).trans (Ex.made _ _)).trans h5)
        clear h5 f0 f1 f2 x1 x2 x3 hHeld
        cases t2 with
        | true =>
          go_wp2_with fail
          go_roundw
          case rel =>
            refine ⟨3, by omega, by go_num, ?_, X.out.trans X5.out, C1.out.ex X5.out, C2.out.ex X5.out⟩
            intro j hj
            by_cases e : j = 2
            · subst e; rfl
            · exact OK.out j (by omega)
          case measure => simp [intOf]
        | false =>
          go_wp2_with fail
          have p0 : t0 = true := OK.out 0 (by omega)
          have p1 : t1 = true := OK.out 1 (by omega)
          go_ret
          have hr := HRR.out
          simp [p0, p1] at hr
          exact ⟨by rw [← hr]; rfl, X.out.trans X5.out⟩
    · obtain rfl : k = 3 := by omega
      have p0 : t0 = true := OK.out 0 (by omega)
      have p1 : t1 = true := OK.out 1 (by omega)
      have p2 : t2 = true := OK.out 2 (by omega)
      have P0 := Lib.hid p0
      have P1 := Lib.hid p1
      have P2 := Lib.hid p2
      clear p0 p1 p2 f0 f1 f2 x1 x2 x3
      rw [show ((3 : Nat) : Int) = 3 from rfl]
      go_wp2_with fail
      go_ret
      have hr := HRR.out
      simp [P0.out, P1.out, P2.out] at hr
      exact ⟨by rw [← hr]; rfl, X.out⟩

theorem wrong_any (w : World) {g f s : Int} (x : I4) (hb : FB3 g f s) :
    Calls Try.prog 23 #[.agg #[.int .i64 g, .int .i64 f, .int .i64 s], .agg #[.int .i64 x.1, .int .i64 x.2.1, .int .i64 x.2.2.1, .int .i64 x.2.2.2]] w fun e w' => e = .returned (.int .i64 (wrongI g f s x)) ∧ Ex w w' := by
  obtain ⟨op, a, b, c⟩ := x
  unfold wrongI
  by_cases h : op < 0 ∨ 17 < op
  · rw [if_pos h]
    exact wrong_out w g f s op a b c h
  · rw [if_neg h]
    obtain ⟨n, rfl⟩ := Int.eq_ofNat_of_zero_le (show 0 ≤ op by omega)
    rw [Int.toNat_natCast]
    exact wrong_in w g f s a b c n (by omega) hb _ rfl

end Go.Proofs.Ytmajnjbjoagihaa
