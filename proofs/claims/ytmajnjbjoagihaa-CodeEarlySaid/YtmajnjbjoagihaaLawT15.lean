/- CodeTurned. -/
import Derived.Test.YtmajnjbjoagihaaStr15
namespace Go.Proofs.Ytmajnjbjoagihaa
open Go.RowKit
set_option linter.unusedVariables false
set_option linter.unusedSimpArgs false

set_option maxRecDepth 20000 in
set_option maxHeartbeats 12800000 in
theorem walk_CodeTurned {w : World} {g : Int} {fv : Value} {F : List (List I4)} (pa ch how : Int) (h : RdP w fv F) (hF : F.length ≤ maxLen) (hch : (Lit.int .u8 ch).wf = true) :
    Calls Try.prog 5 #[.agg #[.int .i64 g, fv], .int .i64 pa, .int .u8 ch, .int .i64 how] w fun e w' => e = .returned (.bool true) ∧ Below w.heap.size w w' := by
  have hc1 : 0 ≤ ch ∧ ch < 256 := by
    simp [Lit.wf, IntKind.min, IntKind.max, IntKind.signed, IntKind.bits] at hch
    omega
  obtain ⟨hc1, hc2⟩ := hc1
  obtain ⟨fa, cap, rfl⟩ := h.val
  have HP := Lib.hid h
  have GR := Lib.hid (fun (W : World) (k : RdP W (.slice fa F.length cap) F) => great_any (g := g) k hF)
  have EB := Lib.hid (fun (W : World) (k : RdP W (.slice fa F.length cap) F) => rencode_any (g := g) k)
  clear h hF hch
  go_enter Try.func5, Try.ntmps5
  go_upto_region 1 with fail
  have e0 := Ex.made w (.cells #[.int .i64 g, .slice fa F.length cap] 24)
  have b0 := Box.fresh w #[.int .i64 g, .slice fa F.length cap] 24
  obtain ⟨W, hW⟩ : ∃ W, W = w.alloc (.cells #[.int .i64 g, .slice fa F.length cap] 24) := ⟨_, rfl⟩
  rw [← hW] at e0 b0 ⊢
  have E0 := Lib.hid e0
  have B0 := Lib.hid b0
  clear hW e0 b0
  have x0 : W.cell? ⟨w.heap.size, 0, none⟩ = some (.int .i64 g) := B0.out.cell 0
  have x1 : W.cell? ⟨w.heap.size, 1, none⟩ = some (.slice fa F.length cap) := B0.out.cell 1
  go_wp2_with fail
  refine (GR.out W (HP.out.ex E0.out)).mono ?_
  rintro e w1 ⟨⟨t, rfl⟩, hx⟩
  have E1 := Lib.hid (E0.out.trans hx)
  have b1 := B0.out.ex hx
  have B1 := Lib.hid b1
  clear x0 x1 hx E0 B0
  cases t
  rotate_left
  · clear b1
    go_wp2_with fail
    refine (told_any w1).mono ?_
    rintro e w2 ⟨rfl, hx⟩
    have E2 := Lib.hid (E1.out.trans hx)
    clear hx
    go_wp2_with fail
    go_ret
    exact ⟨rfl, E2.out⟩
  have x0 : w1.cell? ⟨w.heap.size, 0, none⟩ = some (.int .i64 g) := b1.cell 0
  have x1 : w1.cell? ⟨w.heap.size, 1, none⟩ = some (.slice fa F.length cap) := b1.cell 1
  clear b1
  go_wp2_with fail
  refine (EB.out w1 (HP.out.ex E1.out)).mono ?_
  rintro e w2 (⟨h0, rfl, hx⟩ | ⟨h0, rfl, hx⟩)
  rotate_left
  · have E2 := Lib.hid (E1.out.trans hx)
    clear x0 x1 hx E1 B1 h0
    go_wp2_with fail
    refine (told_any w2).mono ?_
    rintro e w4 ⟨rfl, hx⟩
    have E4 := Lib.hid (E2.out.trans hx)
    clear hx
    go_wp2_with fail
    go_ret
    exact ⟨rfl, E4.out⟩
  have E2 := Lib.hid (E1.out.trans hx)
  obtain ⟨l7, l8⟩ := encB_length (may_zero h0)
  obtain ⟨S, hS⟩ : ∃ S, strOfNums (encB g F) = S := ⟨_, rfl⟩
  have s7 : 7 ≤ S.size := by rw [← hS, strOfNums_size]; exact l7
  have s8 : S.size ≤ 5000 := by rw [← hS, strOfNums_size]; exact l8
  rw [hS]
  clear x0 x1 hx E1 B1 h0 hS l7 l8
  obtain ⟨r, hr⟩ : ∃ r, (IntKind.u64.wrap pa).tmod (S.size : Int) = r := ⟨_, rfl⟩
  obtain ⟨r1, r2⟩ := umod_bd pa (S.size : Int) (by omega)
  rw [hr] at r1 r2
  obtain ⟨k, rfl⟩ : ∃ k : Nat, r = (k : Int) := ⟨r.toNat, by omega⟩
  obtain ⟨q, hq⟩ : ∃ q, (IntKind.u64.wrap how).tmod 5 = q := ⟨_, rfl⟩
  obtain ⟨q1, q2⟩ := umod_bd how 5 (by omega)
  rw [hq] at q1 q2
  obtain ⟨qn, rfl⟩ : ∃ k : Nat, q = (k : Int) := ⟨q.toNat, by omega⟩
  have k1 : k < S.size := by omega
  have k2 : k ≤ S.size := by omega
  have k3 : k + 1 ≤ S.size := by omega
  have k4 : (0 : Int) ≤ (k : Int) := by omega
  have k5 : ((k : Int) + 1) ≤ (S.size : Int) := by omega
  have sc : ∀ c : Int, (strOfNums [c]).size = 1 := fun c => rfl
  go_upto_region 7 with fail
  have c1 : ¬ 9223372036854775807 < k + (S.size - (k + 1)) := by omega
  have c2 : ¬ 9223372036854775807 < S.size + 1 := by omega
  have c6 : ¬ 9223372036854775807 < S.size := by omega
  have c3 : ¬ 9223372036854775807 < k + 1 := by omega
  have c4 : ¬ 9223372036854775807 < k + 1 + (S.size - (k + 1)) := by omega
  have c5 : ¬ 9223372036854775807 < k + 1 + (S.size - k) := by omega
  have kt : ((k : Int) + 1).toNat = k + 1 := by omega
  have k0 : (0 : Int) ≤ (k : Int) + 1 := by omega
  have kq0 : (0 : Int) ≤ (qn : Int) := by omega
  have kq : IntKind.i64.wrap (qn : Int) = (qn : Int) := IntWalk.i64_in _ (by omega)
  have kw : IntKind.i64.wrap ((k : Int) + 1) = (k : Int) + 1 := IntWalk.i64_in _ (by omega)
  --REGION7
  refine wp_region_held_drew (S := fun w' => Ex w2 w') (by kernel_rfl) (ex_drew w2) (fun hHeld => ?_)
  have E3 := Lib.hid (E2.out.trans (ex_drew w2))
  generalize w2.drew = Y0 at *
  refine wpAnyH_now hHeld (fun hHeld1 => ?_)
  clear hHeld
  refine wpAnyH_take (i := 0) (v := ?_) rfl (by kernel_rfl) (by kernel_rfl) (by kernel_rfl) (fun _ _ _ h => h) (Or.inl ⟨by rfl, ?_⟩) (by assumption) ?_
  rotate_left
  · intro w hSw; (try dsimp only at hSw); go_simp; try with_reducible rfl
  try simp only [Act.put, List.setIfInBounds_toArray, List.set_cons_zero, List.set_cons_succ]
  refine wpAnyH_take (i := 1) (v := ?_) rfl (by kernel_rfl) (by kernel_rfl) (by kernel_rfl) (fun _ _ _ h => h) (Or.inl ⟨by rfl, ?_⟩) (by assumption) ?_
  rotate_left
  · intro w hSw; (try dsimp only at hSw); go_simp; try with_reducible rfl
  try simp only [Act.put, List.setIfInBounds_toArray, List.set_cons_zero, List.set_cons_succ]
  refine wpAnyH_take (i := 2) (v := ?_) rfl (by kernel_rfl) (by kernel_rfl) (by kernel_rfl) (fun _ _ _ h => h) (Or.inl ⟨by rfl, ?_⟩) (by assumption) ?_
  rotate_left
  · intro w hSw; (try dsimp only at hSw); go_simp; try with_reducible rfl
  try simp only [Act.put, List.setIfInBounds_toArray, List.set_cons_zero, List.set_cons_succ]
  refine wpAnyH_take (i := 3) (v := ?_) rfl (by kernel_rfl) (by kernel_rfl) (by kernel_rfl) (fun _ _ _ h => h) (Or.inl ⟨by rfl, ?_⟩) (by assumption) ?_
  rotate_left
  · intro w hSw; (try dsimp only at hSw); go_simp; try with_reducible rfl
  try simp only [Act.put, List.setIfInBounds_toArray, List.set_cons_zero, List.set_cons_succ]
  refine wpAnyH_take (i := 7) (v := ?_) rfl (by kernel_rfl) (by kernel_rfl) (by kernel_rfl) (fun _ _ _ h => h) (Or.inl ⟨by rfl, ?_⟩) (by assumption) ?_
  rotate_left
  · intro w hSw; (try dsimp only at hSw); go_simp; try with_reducible rfl
  try simp only [Act.put, List.setIfInBounds_toArray, List.set_cons_zero, List.set_cons_succ]
  refine wpAnyH_take (i := 8) (v := ?_) rfl (by kernel_rfl) (by kernel_rfl) (by kernel_rfl) (fun _ _ _ h => h) (Or.inl ⟨by rfl, ?_⟩) (by assumption) ?_
  rotate_left
  · intro w hSw; (try dsimp only at hSw); go_simp; try with_reducible rfl
  try simp only [Act.put, List.setIfInBounds_toArray, List.set_cons_zero, List.set_cons_succ]
  refine wpAnyH_take (i := 9) (v := ?_) rfl (by kernel_rfl) (by kernel_rfl) (by kernel_rfl) (fun _ _ _ h => h) (Or.inl ⟨by rfl, ?_⟩) (by assumption) ?_
  rotate_left
  · intro w hSw; (try dsimp only at hSw); go_simp; try with_reducible rfl
  try simp only [Act.put, List.setIfInBounds_toArray, List.set_cons_zero, List.set_cons_succ]
  refine wpAnyH_take (i := 10) (v := ?_) rfl (by kernel_rfl) (by kernel_rfl) (by kernel_rfl) (fun _ _ _ h => h) (Or.inl ⟨by rfl, ?_⟩) (by assumption) ?_
  rotate_left
  · intro w hSw; (try dsimp only at hSw); go_simp; try with_reducible rfl
  try simp only [Act.put, List.setIfInBounds_toArray, List.set_cons_zero, List.set_cons_succ]
  refine wpAnyH_take (i := 12) (v := ?_) rfl (by kernel_rfl) (by kernel_rfl) (by kernel_rfl) (fun _ _ _ h => h) (Or.inl ⟨by rfl, ?_⟩) (by assumption) ?_
  rotate_left
  · intro w hSw; (try dsimp only at hSw); go_simp; try with_reducible rfl
  try simp only [Act.put, List.setIfInBounds_toArray, List.set_cons_zero, List.set_cons_succ]
  refine wpAnyH_take (i := 13) (v := ?_) rfl (by kernel_rfl) (by kernel_rfl) (by kernel_rfl) (fun _ _ _ h => h) (Or.inl ⟨by rfl, ?_⟩) (by assumption) ?_
  rotate_left
  · intro w hSw; (try dsimp only at hSw); go_simp; try with_reducible rfl
  try simp only [Act.put, List.setIfInBounds_toArray, List.set_cons_zero, List.set_cons_succ]
  refine wpAnyH_take (i := 14) (v := ?_) rfl (by kernel_rfl) (by kernel_rfl) (by kernel_rfl) (fun _ _ _ h => h) (Or.inl ⟨by rfl, ?_⟩) (by assumption) ?_
  rotate_left
  · intro w hSw; (try dsimp only at hSw); go_simp; try with_reducible rfl
  try simp only [Act.put, List.setIfInBounds_toArray, List.set_cons_zero, List.set_cons_succ]
  refine wpAnyH_take (i := 15) (v := ?_) rfl (by kernel_rfl) (by kernel_rfl) (by kernel_rfl) (fun _ _ _ h => h) (Or.inl ⟨by rfl, ?_⟩) (by assumption) ?_
  rotate_left
  · intro w hSw; (try dsimp only at hSw); go_simp; try with_reducible rfl
  try simp only [Act.put, List.setIfInBounds_toArray, List.set_cons_zero, List.set_cons_succ]
  refine wpAnyH_take (i := 16) (v := ?_) rfl (by kernel_rfl) (by kernel_rfl) (by kernel_rfl) (fun _ _ _ h => h) (Or.inl ⟨by rfl, ?_⟩) (by assumption) ?_
  rotate_left
  · intro w hSw; (try dsimp only at hSw); go_simp; try with_reducible rfl
  try simp only [Act.put, List.setIfInBounds_toArray, List.set_cons_zero, List.set_cons_succ]
  refine wpAnyH_take (i := 17) (v := ?_) rfl (by kernel_rfl) (by kernel_rfl) (by kernel_rfl) (fun _ _ _ h => h) (Or.inl ⟨by rfl, ?_⟩) (by assumption) ?_
  rotate_left
  · intro w hSw; (try dsimp only at hSw); go_simp; try with_reducible rfl
  try simp only [Act.put, List.setIfInBounds_toArray, List.set_cons_zero, List.set_cons_succ]
  refine wpAnyH_take (i := 18) (v := ?_) rfl (by kernel_rfl) (by kernel_rfl) (by kernel_rfl) (fun _ _ _ h => h) (Or.inl ⟨by rfl, ?_⟩) (by assumption) ?_
  rotate_left
  · intro w hSw; (try dsimp only at hSw); go_simp; try with_reducible rfl
  try simp only [Act.put, List.setIfInBounds_toArray, List.set_cons_zero, List.set_cons_succ]
  refine wpAnyH_take (i := 19) (v := ?_) rfl (by kernel_rfl) (by kernel_rfl) (by kernel_rfl) (fun _ _ _ h => h) (Or.inl ⟨by rfl, ?_⟩) (by assumption) ?_
  rotate_left
  · intro w hSw; (try dsimp only at hSw); go_simp; try with_reducible rfl
  try simp only [Act.put, List.setIfInBounds_toArray, List.set_cons_zero, List.set_cons_succ]
  refine wpAnyH_take (i := 20) (v := ?_) rfl (by kernel_rfl) (by kernel_rfl) (by kernel_rfl) (fun _ _ _ h => h) (Or.inl ⟨by rfl, ?_⟩) (by assumption) ?_
  rotate_left
  · intro w hSw; (try dsimp only at hSw); go_simp; try with_reducible rfl
  try simp only [Act.put, List.setIfInBounds_toArray, List.set_cons_zero, List.set_cons_succ]
  refine wpAnyH_take (i := 21) (v := ?_) rfl (by kernel_rfl) (by kernel_rfl) (by kernel_rfl) (fun _ _ _ h => h) (Or.inl ⟨by rfl, ?_⟩) (by assumption) ?_
  rotate_left
  · intro w hSw; (try dsimp only at hSw); go_simp; try with_reducible rfl
  try simp only [Act.put, List.setIfInBounds_toArray, List.set_cons_zero, List.set_cons_succ]
  refine wpAnyH_take (i := 22) (v := ?_) rfl (by kernel_rfl) (by kernel_rfl) (by kernel_rfl) (fun _ _ _ h => h) (Or.inl ⟨by rfl, ?_⟩) (by assumption) ?_
  rotate_left
  · intro w hSw; (try dsimp only at hSw); go_simp; try with_reducible rfl
  try simp only [Act.put, List.setIfInBounds_toArray, List.set_cons_zero, List.set_cons_succ]
  refine wpAnyH_take (i := 23) (v := ?_) rfl (by kernel_rfl) (by kernel_rfl) (by kernel_rfl) (fun _ _ _ h => h) (Or.inl ⟨by rfl, ?_⟩) (by assumption) ?_
  rotate_left
  · intro w hSw; (try dsimp only at hSw); go_simp; try with_reducible rfl
  try simp only [Act.put, List.setIfInBounds_toArray, List.set_cons_zero, List.set_cons_succ]
  refine wpAnyH_take (i := 27) (v := ?_) rfl (by kernel_rfl) (by kernel_rfl) (by kernel_rfl) (fun _ _ _ h => h) (Or.inl ⟨by rfl, ?_⟩) (by assumption) ?_
  rotate_left
  · intro w hSw; (try dsimp only at hSw); go_simp; try with_reducible rfl
  try simp only [Act.put, List.setIfInBounds_toArray, List.set_cons_zero, List.set_cons_succ]
  refine wpAnyH_take (i := 28) (v := ?_) rfl (by kernel_rfl) (by kernel_rfl) (by kernel_rfl) (fun _ _ _ h => h) (Or.inl ⟨by rfl, ?_⟩) (by assumption) ?_
  rotate_left
  · intro w hSw; (try dsimp only at hSw); go_simp; try with_reducible rfl
  try simp only [Act.put, List.setIfInBounds_toArray, List.set_cons_zero, List.set_cons_succ]
  refine wpAnyH_take (i := 29) (v := ?_) rfl (by kernel_rfl) (by kernel_rfl) (by kernel_rfl) (fun _ _ _ h => h) (Or.inl ⟨by rfl, ?_⟩) (by assumption) ?_
  rotate_left
  · intro w hSw; (try dsimp only at hSw); go_simp; try with_reducible rfl
  try simp only [Act.put, List.setIfInBounds_toArray, List.set_cons_zero, List.set_cons_succ]
  refine wpAnyH_take (i := 31) (v := ?_) rfl (by kernel_rfl) (by kernel_rfl) (by kernel_rfl) (fun _ _ _ h => h) (Or.inl ⟨by rfl, ?_⟩) (by assumption) ?_
  rotate_left
  · intro w hSw; (try dsimp only at hSw); go_simp; try with_reducible rfl
  try simp only [Act.put, List.setIfInBounds_toArray, List.set_cons_zero, List.set_cons_succ]
  refine wpAnyH_take (i := 32) (v := ?_) rfl (by kernel_rfl) (by kernel_rfl) (by kernel_rfl) (fun _ _ _ h => h) (Or.inl ⟨by rfl, ?_⟩) (by assumption) ?_
  rotate_left
  · intro w hSw; (try dsimp only at hSw); go_simp; try with_reducible rfl
  try simp only [Act.put, List.setIfInBounds_toArray, List.set_cons_zero, List.set_cons_succ]
  refine wpAnyH_take (i := 33) (v := ?_) rfl (by kernel_rfl) (by kernel_rfl) (by kernel_rfl) (fun _ _ _ h => h) (Or.inl ⟨by rfl, ?_⟩) (by assumption) ?_
  rotate_left
  · intro w hSw; (try dsimp only at hSw); go_simp; try with_reducible rfl
  try simp only [Act.put, List.setIfInBounds_toArray, List.set_cons_zero, List.set_cons_succ]
  refine wpAnyH_take (i := 34) (v := ?_) rfl (by kernel_rfl) (by kernel_rfl) (by kernel_rfl) (fun _ _ _ h => h) (Or.inl ⟨by rfl, ?_⟩) (by assumption) ?_
  rotate_left
  · intro w hSw; (try dsimp only at hSw); go_simp; try with_reducible rfl
  try simp only [Act.put, List.setIfInBounds_toArray, List.set_cons_zero, List.set_cons_succ]
  refine wpAnyH_take (i := 35) (v := ?_) rfl (by kernel_rfl) (by kernel_rfl) (by kernel_rfl) (fun _ _ _ h => h) (Or.inl ⟨by rfl, ?_⟩) (by assumption) ?_
  rotate_left
  · intro w hSw; (try dsimp only at hSw); go_simp; try with_reducible rfl
  try simp only [Act.put, List.setIfInBounds_toArray, List.set_cons_zero, List.set_cons_succ]
  refine wpAnyH_take (i := 40) (v := ?_) rfl (by kernel_rfl) (by kernel_rfl) (by kernel_rfl) (fun _ _ _ h => h) (Or.inl ⟨by rfl, ?_⟩) (by assumption) ?_
  rotate_left
  · intro w hSw; (try dsimp only at hSw); go_simp; try with_reducible rfl
  try simp only [Act.put, List.setIfInBounds_toArray, List.set_cons_zero, List.set_cons_succ]
  refine wpAnyH_take (i := 41) (v := ?_) rfl (by kernel_rfl) (by kernel_rfl) (by kernel_rfl) (fun _ _ _ h => h) (Or.inl ⟨by rfl, ?_⟩) (by assumption) ?_
  rotate_left
  · intro w hSw; (try dsimp only at hSw); go_simp; try with_reducible rfl
  try simp only [Act.put, List.setIfInBounds_toArray, List.set_cons_zero, List.set_cons_succ]
  refine wpAnyH_take (i := 42) (v := ?_) rfl (by kernel_rfl) (by kernel_rfl) (by kernel_rfl) (fun _ _ _ h => h) (Or.inl ⟨by rfl, ?_⟩) (by assumption) ?_
  rotate_left
  · intro w hSw; (try dsimp only at hSw); go_simp; try with_reducible rfl
  try simp only [Act.put, List.setIfInBounds_toArray, List.set_cons_zero, List.set_cons_succ]
  refine wpAnyH_take (i := 43) (v := ?_) rfl (by kernel_rfl) (by kernel_rfl) (by kernel_rfl) (fun _ _ _ h => h) (Or.inl ⟨by rfl, ?_⟩) (by assumption) ?_
  rotate_left
  · intro w hSw; (try dsimp only at hSw); go_simp; try with_reducible rfl
  try simp only [Act.put, List.setIfInBounds_toArray, List.set_cons_zero, List.set_cons_succ]
  refine wpAnyH_ready (rs := [4, 24, 36]) (by kernel_rfl) (by simp) ?_
  refine AllReadyH.cons rfl (fun K hK => ?_) (AllReadyH.cons rfl (fun K hK => ?_) (AllReadyH.cons rfl (fun K hK => ?_) AllReadyH.nil))
  go_simp
  refine hK.out _ _ (Ex.made _ _) (fun hHeld => ?_)
  clear hK K
  try simp only [Act.put, List.setIfInBounds_toArray, List.set_cons_zero, List.set_cons_succ]
  have hx := Ex.made Y0 (.cells #[.int .u8 ch] 5)
  have hn := Box.fresh Y0 #[.int .u8 ch] 5
  obtain ⟨nb, hnb⟩ : ∃ b, Y0.heap.size = b := ⟨_, rfl⟩
  rw [hnb] at hn ⊢
  obtain ⟨Y1, hY1⟩ : ∃ Y, Y = Y0.alloc (.cells #[.int .u8 ch] 5) := ⟨_, rfl⟩
  rw [← hY1] at hx hn hHeld ⊢
  have E4 := Lib.hid (E3.out.trans hx)
  have HN := Lib.hid hn
  refine wpAnyH_now hHeld (fun hHeld2 => ?_)
  clear hY1 hnb hx hn hHeld
  refine wpAnyH_take (i := 5) (v := ?_) rfl (by kernel_rfl) (by kernel_rfl) (by kernel_rfl) (fun _ _ _ h => h) (Or.inl ⟨by rfl, ?_⟩) (by assumption) ?_
  rotate_left
  · intro w hSw; (try dsimp only at hSw); have hcv := conv_one HN.out hSw; go_simp; try with_reducible rfl
  try simp only [Act.put, List.setIfInBounds_toArray, List.set_cons_zero, List.set_cons_succ]
  refine wpAnyH_take (i := 6) (v := ?_) rfl (by kernel_rfl) (by kernel_rfl) (by kernel_rfl) (fun _ _ _ h => h) (Or.inl ⟨by rfl, ?_⟩) (by assumption) ?_
  rotate_left
  · intro w hSw; (try dsimp only at hSw); go_simp; try with_reducible rfl
  try simp only [Act.put, List.setIfInBounds_toArray, List.set_cons_zero, List.set_cons_succ]
  refine wpAnyH_take (i := 11) (v := ?_) rfl (by kernel_rfl) (by kernel_rfl) (by kernel_rfl) (fun _ _ _ h => h) (Or.inl ⟨by rfl, ?_⟩) (by assumption) ?_
  rotate_left
  · intro w hSw; (try dsimp only at hSw); go_simp; try with_reducible rfl
  try simp only [Act.put, List.setIfInBounds_toArray, List.set_cons_zero, List.set_cons_succ]
  clear HN
  refine wpAnyH_ready (rs := [24, 36]) (by kernel_rfl) (by simp) ?_
  refine AllReadyH.cons rfl (fun K hK => ?_) (AllReadyH.cons rfl (fun K hK => ?_) AllReadyH.nil)
  go_simp
  refine hK.out _ _ (Ex.made _ _) (fun hHeld => ?_)
  clear hK K
  try simp only [Act.put, List.setIfInBounds_toArray, List.set_cons_zero, List.set_cons_succ]
  have hx := Ex.made Y1 (.cells #[.int .u8 ch] 5)
  have hn := Box.fresh Y1 #[.int .u8 ch] 5
  obtain ⟨nb, hnb⟩ : ∃ b, Y1.heap.size = b := ⟨_, rfl⟩
  rw [hnb] at hn ⊢
  obtain ⟨Y2, hY2⟩ : ∃ Y, Y = Y1.alloc (.cells #[.int .u8 ch] 5) := ⟨_, rfl⟩
  rw [← hY2] at hx hn hHeld ⊢
  have E5 := Lib.hid (E4.out.trans hx)
  have HN := Lib.hid hn
  refine wpAnyH_now hHeld (fun hHeld2 => ?_)
  clear hY2 hnb hx hn hHeld
  refine wpAnyH_take (i := 25) (v := ?_) rfl (by kernel_rfl) (by kernel_rfl) (by kernel_rfl) (fun _ _ _ h => h) (Or.inl ⟨by rfl, ?_⟩) (by assumption) ?_
  rotate_left
  · intro w hSw; (try dsimp only at hSw); have hcv := conv_one HN.out hSw; go_simp; try with_reducible rfl
  try simp only [Act.put, List.setIfInBounds_toArray, List.set_cons_zero, List.set_cons_succ]
  refine wpAnyH_take (i := 26) (v := ?_) rfl (by kernel_rfl) (by kernel_rfl) (by kernel_rfl) (fun _ _ _ h => h) (Or.inl ⟨by rfl, ?_⟩) (by assumption) ?_
  rotate_left
  · intro w hSw; (try dsimp only at hSw); go_simp; try with_reducible rfl
  try simp only [Act.put, List.setIfInBounds_toArray, List.set_cons_zero, List.set_cons_succ]
  refine wpAnyH_take (i := 30) (v := ?_) rfl (by kernel_rfl) (by kernel_rfl) (by kernel_rfl) (fun _ _ _ h => h) (Or.inl ⟨by rfl, ?_⟩) (by assumption) ?_
  rotate_left
  · intro w hSw; (try dsimp only at hSw); go_simp; try with_reducible rfl
  try simp only [Act.put, List.setIfInBounds_toArray, List.set_cons_zero, List.set_cons_succ]
  clear HN
  refine wpAnyH_ready (rs := [36]) (by kernel_rfl) (by simp) ?_
  refine AllReadyH.cons rfl (fun K hK => ?_) AllReadyH.nil
  go_simp
  refine hK.out _ _ (Ex.made _ _) (fun hHeld => ?_)
  clear hK K
  try simp only [Act.put, List.setIfInBounds_toArray, List.set_cons_zero, List.set_cons_succ]
  have hx := Ex.made Y2 (.cells #[.int .u8 ch] 5)
  have hn := Box.fresh Y2 #[.int .u8 ch] 5
  obtain ⟨nb, hnb⟩ : ∃ b, Y2.heap.size = b := ⟨_, rfl⟩
  rw [hnb] at hn ⊢
  obtain ⟨Y3, hY3⟩ : ∃ Y, Y = Y2.alloc (.cells #[.int .u8 ch] 5) := ⟨_, rfl⟩
  rw [← hY3] at hx hn hHeld ⊢
  have E6 := Lib.hid (E5.out.trans hx)
  have HN := Lib.hid hn
  refine wpAnyH_now hHeld (fun hHeld2 => ?_)
  clear hY3 hnb hx hn hHeld
  refine wpAnyH_take (i := 37) (v := ?_) rfl (by kernel_rfl) (by kernel_rfl) (by kernel_rfl) (fun _ _ _ h => h) (Or.inl ⟨by rfl, ?_⟩) (by assumption) ?_
  rotate_left
  · intro w hSw; (try dsimp only at hSw); have hcv := conv_one HN.out hSw; go_simp; try with_reducible rfl
  try simp only [Act.put, List.setIfInBounds_toArray, List.set_cons_zero, List.set_cons_succ]
  refine wpAnyH_take (i := 38) (v := ?_) rfl (by kernel_rfl) (by kernel_rfl) (by kernel_rfl) (fun _ _ _ h => h) (Or.inl ⟨by rfl, ?_⟩) (by assumption) ?_
  rotate_left
  · intro w hSw; (try dsimp only at hSw); go_simp; try with_reducible rfl
  try simp only [Act.put, List.setIfInBounds_toArray, List.set_cons_zero, List.set_cons_succ]
  clear HN
  refine wpAnyH_ready (rs := [39]) (by kernel_rfl) (by simp) ?_
  refine AllReadyH.cons rfl (fun K hK => ?_) AllReadyH.nil
  go_simp
  refine hK.out _ _ (Ex.made _ _) (fun hHeld => ?_)
  clear hK K
  try simp only [Act.put, List.setIfInBounds_toArray, List.set_cons_zero, List.set_cons_succ]
  have hx := Ex.made Y3 (.cells #[.string (S.extract 0 k ++ strOfNums [ch] ++ S.extract (k + 1) S.size), .string (S.extract 0 k ++ S.extract (k + 1) S.size), .string (S.extract 0 k ++ strOfNums [ch] ++ S.extract k S.size), .string (S.extract 0 k), .string (S ++ strOfNums [ch])] 9)
  have hn := Box.fresh Y3 #[.string (S.extract 0 k ++ strOfNums [ch] ++ S.extract (k + 1) S.size), .string (S.extract 0 k ++ S.extract (k + 1) S.size), .string (S.extract 0 k ++ strOfNums [ch] ++ S.extract k S.size), .string (S.extract 0 k), .string (S ++ strOfNums [ch])] 9
  obtain ⟨nb, hnb⟩ : ∃ b, Y3.heap.size = b := ⟨_, rfl⟩
  rw [hnb] at hn ⊢
  obtain ⟨Y4, hY4⟩ : ∃ Y, Y = Y3.alloc (.cells #[.string (S.extract 0 k ++ strOfNums [ch] ++ S.extract (k + 1) S.size), .string (S.extract 0 k ++ S.extract (k + 1) S.size), .string (S.extract 0 k ++ strOfNums [ch] ++ S.extract k S.size), .string (S.extract 0 k), .string (S ++ strOfNums [ch])] 9) := ⟨_, rfl⟩
  rw [← hY4] at hx hn hHeld ⊢
  have E7 := Lib.hid (E6.out.trans hx)
  obtain ⟨T, hT, hTS⟩ := str_sel hn k2 qn q2 s8
  refine wpAnyH_now hHeld (fun hHeld2 => ?_)
  have HT := Lib.hid hT
  clear hY4 hnb hx hn hHeld hT
  refine wpAnyH_take (i := 44) (v := ?_) rfl (by kernel_rfl) (by kernel_rfl) (by kernel_rfl) (fun _ _ _ h => h) (Or.inl ⟨by rfl, ?_⟩) (by assumption) ?_
  rotate_left
  · intro w hSw; (try dsimp only at hSw); go_simp; try with_reducible rfl
  try simp only [Act.put, List.setIfInBounds_toArray, List.set_cons_zero, List.set_cons_succ]
  refine wpAnyH_take (i := 45) (v := ?_) rfl (by kernel_rfl) (by kernel_rfl) (by kernel_rfl) (fun _ _ _ h => h) (Or.inl ⟨by rfl, ?_⟩) (by assumption) ?_
  rotate_left
  · intro w hSw; (try dsimp only at hSw); have hcv := cell_later hSw HT.out; go_simp; try with_reducible rfl
  try simp only [Act.put, List.setIfInBounds_toArray, List.set_cons_zero, List.set_cons_succ]
  refine wpAnyH_ready (rs := [46]) (by kernel_rfl) (by simp) ?_
  refine AllReadyH.cons rfl (fun K hK => ?_) AllReadyH.nil
  go_simp
  refine hK.out _ _ (Ex.refl _) (fun hHeld => ?_)
  clear hK K
  try simp only [Act.put, List.setIfInBounds_toArray, List.set_cons_zero, List.set_cons_succ]
  refine wpAnyH_done (by kernel_rfl) ?_ _
  clear hHeld HT E6 E5 E4
  rotate_left
  go_simp
  refine hK.out _ _ (Ex.made _ _) (fun hHeld => ?_)
  clear hK K
  try simp only [Act.put, List.setIfInBounds_toArray, List.set_cons_zero, List.set_cons_succ]
  have hx := Ex.made Y1 (.cells #[.int .u8 ch] 5)
  have hn := Box.fresh Y1 #[.int .u8 ch] 5
  obtain ⟨nb, hnb⟩ : ∃ b, Y1.heap.size = b := ⟨_, rfl⟩
  rw [hnb] at hn ⊢
  obtain ⟨Y2, hY2⟩ : ∃ Y, Y = Y1.alloc (.cells #[.int .u8 ch] 5) := ⟨_, rfl⟩
  rw [← hY2] at hx hn hHeld ⊢
  have E5 := Lib.hid (E4.out.trans hx)
  have HN := Lib.hid hn
  refine wpAnyH_now hHeld (fun hHeld2 => ?_)
  clear hY2 hnb hx hn hHeld
  refine wpAnyH_take (i := 37) (v := ?_) rfl (by kernel_rfl) (by kernel_rfl) (by kernel_rfl) (fun _ _ _ h => h) (Or.inl ⟨by rfl, ?_⟩) (by assumption) ?_
  rotate_left
  · intro w hSw; (try dsimp only at hSw); have hcv := conv_one HN.out hSw; go_simp; try with_reducible rfl
  try simp only [Act.put, List.setIfInBounds_toArray, List.set_cons_zero, List.set_cons_succ]
  refine wpAnyH_take (i := 38) (v := ?_) rfl (by kernel_rfl) (by kernel_rfl) (by kernel_rfl) (fun _ _ _ h => h) (Or.inl ⟨by rfl, ?_⟩) (by assumption) ?_
  rotate_left
  · intro w hSw; (try dsimp only at hSw); go_simp; try with_reducible rfl
  try simp only [Act.put, List.setIfInBounds_toArray, List.set_cons_zero, List.set_cons_succ]
  clear HN
  refine wpAnyH_ready (rs := [24]) (by kernel_rfl) (by simp) ?_
  refine AllReadyH.cons rfl (fun K hK => ?_) AllReadyH.nil
  go_simp
  refine hK.out _ _ (Ex.made _ _) (fun hHeld => ?_)
  clear hK K
  try simp only [Act.put, List.setIfInBounds_toArray, List.set_cons_zero, List.set_cons_succ]
  have hx := Ex.made Y2 (.cells #[.int .u8 ch] 5)
  have hn := Box.fresh Y2 #[.int .u8 ch] 5
  obtain ⟨nb, hnb⟩ : ∃ b, Y2.heap.size = b := ⟨_, rfl⟩
  rw [hnb] at hn ⊢
  obtain ⟨Y3, hY3⟩ : ∃ Y, Y = Y2.alloc (.cells #[.int .u8 ch] 5) := ⟨_, rfl⟩
  rw [← hY3] at hx hn hHeld ⊢
  have E6 := Lib.hid (E5.out.trans hx)
  have HN := Lib.hid hn
  refine wpAnyH_now hHeld (fun hHeld2 => ?_)
  clear hY3 hnb hx hn hHeld
  refine wpAnyH_take (i := 25) (v := ?_) rfl (by kernel_rfl) (by kernel_rfl) (by kernel_rfl) (fun _ _ _ h => h) (Or.inl ⟨by rfl, ?_⟩) (by assumption) ?_
  rotate_left
  · intro w hSw; (try dsimp only at hSw); have hcv := conv_one HN.out hSw; go_simp; try with_reducible rfl
  try simp only [Act.put, List.setIfInBounds_toArray, List.set_cons_zero, List.set_cons_succ]
  refine wpAnyH_take (i := 26) (v := ?_) rfl (by kernel_rfl) (by kernel_rfl) (by kernel_rfl) (fun _ _ _ h => h) (Or.inl ⟨by rfl, ?_⟩) (by assumption) ?_
  rotate_left
  · intro w hSw; (try dsimp only at hSw); go_simp; try with_reducible rfl
  try simp only [Act.put, List.setIfInBounds_toArray, List.set_cons_zero, List.set_cons_succ]
  refine wpAnyH_take (i := 30) (v := ?_) rfl (by kernel_rfl) (by kernel_rfl) (by kernel_rfl) (fun _ _ _ h => h) (Or.inl ⟨by rfl, ?_⟩) (by assumption) ?_
  rotate_left
  · intro w hSw; (try dsimp only at hSw); go_simp; try with_reducible rfl
  try simp only [Act.put, List.setIfInBounds_toArray, List.set_cons_zero, List.set_cons_succ]
  clear HN
  refine wpAnyH_ready (rs := [39]) (by kernel_rfl) (by simp) ?_
  refine AllReadyH.cons rfl (fun K hK => ?_) AllReadyH.nil
  go_simp
  refine hK.out _ _ (Ex.made _ _) (fun hHeld => ?_)
  clear hK K
  try simp only [Act.put, List.setIfInBounds_toArray, List.set_cons_zero, List.set_cons_succ]
  have hx := Ex.made Y3 (.cells #[.string (S.extract 0 k ++ strOfNums [ch] ++ S.extract (k + 1) S.size), .string (S.extract 0 k ++ S.extract (k + 1) S.size), .string (S.extract 0 k ++ strOfNums [ch] ++ S.extract k S.size), .string (S.extract 0 k), .string (S ++ strOfNums [ch])] 9)
  have hn := Box.fresh Y3 #[.string (S.extract 0 k ++ strOfNums [ch] ++ S.extract (k + 1) S.size), .string (S.extract 0 k ++ S.extract (k + 1) S.size), .string (S.extract 0 k ++ strOfNums [ch] ++ S.extract k S.size), .string (S.extract 0 k), .string (S ++ strOfNums [ch])] 9
  obtain ⟨nb, hnb⟩ : ∃ b, Y3.heap.size = b := ⟨_, rfl⟩
  rw [hnb] at hn ⊢
  obtain ⟨Y4, hY4⟩ : ∃ Y, Y = Y3.alloc (.cells #[.string (S.extract 0 k ++ strOfNums [ch] ++ S.extract (k + 1) S.size), .string (S.extract 0 k ++ S.extract (k + 1) S.size), .string (S.extract 0 k ++ strOfNums [ch] ++ S.extract k S.size), .string (S.extract 0 k), .string (S ++ strOfNums [ch])] 9) := ⟨_, rfl⟩
  rw [← hY4] at hx hn hHeld ⊢
  have E7 := Lib.hid (E6.out.trans hx)
  obtain ⟨T, hT, hTS⟩ := str_sel hn k2 qn q2 s8
  refine wpAnyH_now hHeld (fun hHeld2 => ?_)
  have HT := Lib.hid hT
  clear hY4 hnb hx hn hHeld hT
  refine wpAnyH_take (i := 44) (v := ?_) rfl (by kernel_rfl) (by kernel_rfl) (by kernel_rfl) (fun _ _ _ h => h) (Or.inl ⟨by rfl, ?_⟩) (by assumption) ?_
  rotate_left
  · intro w hSw; (try dsimp only at hSw); go_simp; try with_reducible rfl
  try simp only [Act.put, List.setIfInBounds_toArray, List.set_cons_zero, List.set_cons_succ]
  refine wpAnyH_take (i := 45) (v := ?_) rfl (by kernel_rfl) (by kernel_rfl) (by kernel_rfl) (fun _ _ _ h => h) (Or.inl ⟨by rfl, ?_⟩) (by assumption) ?_
  rotate_left
  · intro w hSw; (try dsimp only at hSw); have hcv := cell_later hSw HT.out; go_simp; try with_reducible rfl
  try simp only [Act.put, List.setIfInBounds_toArray, List.set_cons_zero, List.set_cons_succ]
  refine wpAnyH_ready (rs := [46]) (by kernel_rfl) (by simp) ?_
  refine AllReadyH.cons rfl (fun K hK => ?_) AllReadyH.nil
  go_simp
  refine hK.out _ _ (Ex.refl _) (fun hHeld => ?_)
  clear hK K
  try simp only [Act.put, List.setIfInBounds_toArray, List.set_cons_zero, List.set_cons_succ]
  refine wpAnyH_done (by kernel_rfl) ?_ _
  clear hHeld HT E6 E5 E4
  rotate_left
  go_simp
  refine hK.out _ _ (Ex.made _ _) (fun hHeld => ?_)
  clear hK K
  try simp only [Act.put, List.setIfInBounds_toArray, List.set_cons_zero, List.set_cons_succ]
  have hx := Ex.made Y0 (.cells #[.int .u8 ch] 5)
  have hn := Box.fresh Y0 #[.int .u8 ch] 5
  obtain ⟨nb, hnb⟩ : ∃ b, Y0.heap.size = b := ⟨_, rfl⟩
  rw [hnb] at hn ⊢
  obtain ⟨Y1, hY1⟩ : ∃ Y, Y = Y0.alloc (.cells #[.int .u8 ch] 5) := ⟨_, rfl⟩
  rw [← hY1] at hx hn hHeld ⊢
  have E4 := Lib.hid (E3.out.trans hx)
  have HN := Lib.hid hn
  refine wpAnyH_now hHeld (fun hHeld2 => ?_)
  clear hY1 hnb hx hn hHeld
  refine wpAnyH_take (i := 25) (v := ?_) rfl (by kernel_rfl) (by kernel_rfl) (by kernel_rfl) (fun _ _ _ h => h) (Or.inl ⟨by rfl, ?_⟩) (by assumption) ?_
  rotate_left
  · intro w hSw; (try dsimp only at hSw); have hcv := conv_one HN.out hSw; go_simp; try with_reducible rfl
  try simp only [Act.put, List.setIfInBounds_toArray, List.set_cons_zero, List.set_cons_succ]
  refine wpAnyH_take (i := 26) (v := ?_) rfl (by kernel_rfl) (by kernel_rfl) (by kernel_rfl) (fun _ _ _ h => h) (Or.inl ⟨by rfl, ?_⟩) (by assumption) ?_
  rotate_left
  · intro w hSw; (try dsimp only at hSw); go_simp; try with_reducible rfl
  try simp only [Act.put, List.setIfInBounds_toArray, List.set_cons_zero, List.set_cons_succ]
  refine wpAnyH_take (i := 30) (v := ?_) rfl (by kernel_rfl) (by kernel_rfl) (by kernel_rfl) (fun _ _ _ h => h) (Or.inl ⟨by rfl, ?_⟩) (by assumption) ?_
  rotate_left
  · intro w hSw; (try dsimp only at hSw); go_simp; try with_reducible rfl
  try simp only [Act.put, List.setIfInBounds_toArray, List.set_cons_zero, List.set_cons_succ]
  clear HN
  refine wpAnyH_ready (rs := [4, 36]) (by kernel_rfl) (by simp) ?_
  refine AllReadyH.cons rfl (fun K hK => ?_) (AllReadyH.cons rfl (fun K hK => ?_) AllReadyH.nil)
  go_simp
  refine hK.out _ _ (Ex.made _ _) (fun hHeld => ?_)
  clear hK K
  try simp only [Act.put, List.setIfInBounds_toArray, List.set_cons_zero, List.set_cons_succ]
  have hx := Ex.made Y1 (.cells #[.int .u8 ch] 5)
  have hn := Box.fresh Y1 #[.int .u8 ch] 5
  obtain ⟨nb, hnb⟩ : ∃ b, Y1.heap.size = b := ⟨_, rfl⟩
  rw [hnb] at hn ⊢
  obtain ⟨Y2, hY2⟩ : ∃ Y, Y = Y1.alloc (.cells #[.int .u8 ch] 5) := ⟨_, rfl⟩
  rw [← hY2] at hx hn hHeld ⊢
  have E5 := Lib.hid (E4.out.trans hx)
  have HN := Lib.hid hn
  refine wpAnyH_now hHeld (fun hHeld2 => ?_)
  clear hY2 hnb hx hn hHeld
  refine wpAnyH_take (i := 5) (v := ?_) rfl (by kernel_rfl) (by kernel_rfl) (by kernel_rfl) (fun _ _ _ h => h) (Or.inl ⟨by rfl, ?_⟩) (by assumption) ?_
  rotate_left
  · intro w hSw; (try dsimp only at hSw); have hcv := conv_one HN.out hSw; go_simp; try with_reducible rfl
  try simp only [Act.put, List.setIfInBounds_toArray, List.set_cons_zero, List.set_cons_succ]
  refine wpAnyH_take (i := 6) (v := ?_) rfl (by kernel_rfl) (by kernel_rfl) (by kernel_rfl) (fun _ _ _ h => h) (Or.inl ⟨by rfl, ?_⟩) (by assumption) ?_
  rotate_left
  · intro w hSw; (try dsimp only at hSw); go_simp; try with_reducible rfl
  try simp only [Act.put, List.setIfInBounds_toArray, List.set_cons_zero, List.set_cons_succ]
  refine wpAnyH_take (i := 11) (v := ?_) rfl (by kernel_rfl) (by kernel_rfl) (by kernel_rfl) (fun _ _ _ h => h) (Or.inl ⟨by rfl, ?_⟩) (by assumption) ?_
  rotate_left
  · intro w hSw; (try dsimp only at hSw); go_simp; try with_reducible rfl
  try simp only [Act.put, List.setIfInBounds_toArray, List.set_cons_zero, List.set_cons_succ]
  clear HN
  refine wpAnyH_ready (rs := [36]) (by kernel_rfl) (by simp) ?_
  refine AllReadyH.cons rfl (fun K hK => ?_) AllReadyH.nil
  go_simp
  refine hK.out _ _ (Ex.made _ _) (fun hHeld => ?_)
  clear hK K
  try simp only [Act.put, List.setIfInBounds_toArray, List.set_cons_zero, List.set_cons_succ]
  have hx := Ex.made Y2 (.cells #[.int .u8 ch] 5)
  have hn := Box.fresh Y2 #[.int .u8 ch] 5
  obtain ⟨nb, hnb⟩ : ∃ b, Y2.heap.size = b := ⟨_, rfl⟩
  rw [hnb] at hn ⊢
  obtain ⟨Y3, hY3⟩ : ∃ Y, Y = Y2.alloc (.cells #[.int .u8 ch] 5) := ⟨_, rfl⟩
  rw [← hY3] at hx hn hHeld ⊢
  have E6 := Lib.hid (E5.out.trans hx)
  have HN := Lib.hid hn
  refine wpAnyH_now hHeld (fun hHeld2 => ?_)
  clear hY3 hnb hx hn hHeld
  refine wpAnyH_take (i := 37) (v := ?_) rfl (by kernel_rfl) (by kernel_rfl) (by kernel_rfl) (fun _ _ _ h => h) (Or.inl ⟨by rfl, ?_⟩) (by assumption) ?_
  rotate_left
  · intro w hSw; (try dsimp only at hSw); have hcv := conv_one HN.out hSw; go_simp; try with_reducible rfl
  try simp only [Act.put, List.setIfInBounds_toArray, List.set_cons_zero, List.set_cons_succ]
  refine wpAnyH_take (i := 38) (v := ?_) rfl (by kernel_rfl) (by kernel_rfl) (by kernel_rfl) (fun _ _ _ h => h) (Or.inl ⟨by rfl, ?_⟩) (by assumption) ?_
  rotate_left
  · intro w hSw; (try dsimp only at hSw); go_simp; try with_reducible rfl
  try simp only [Act.put, List.setIfInBounds_toArray, List.set_cons_zero, List.set_cons_succ]
  clear HN
  refine wpAnyH_ready (rs := [39]) (by kernel_rfl) (by simp) ?_
  refine AllReadyH.cons rfl (fun K hK => ?_) AllReadyH.nil
  go_simp
  refine hK.out _ _ (Ex.made _ _) (fun hHeld => ?_)
  clear hK K
  try simp only [Act.put, List.setIfInBounds_toArray, List.set_cons_zero, List.set_cons_succ]
  have hx := Ex.made Y3 (.cells #[.string (S.extract 0 k ++ strOfNums [ch] ++ S.extract (k + 1) S.size), .string (S.extract 0 k ++ S.extract (k + 1) S.size), .string (S.extract 0 k ++ strOfNums [ch] ++ S.extract k S.size), .string (S.extract 0 k), .string (S ++ strOfNums [ch])] 9)
  have hn := Box.fresh Y3 #[.string (S.extract 0 k ++ strOfNums [ch] ++ S.extract (k + 1) S.size), .string (S.extract 0 k ++ S.extract (k + 1) S.size), .string (S.extract 0 k ++ strOfNums [ch] ++ S.extract k S.size), .string (S.extract 0 k), .string (S ++ strOfNums [ch])] 9
  obtain ⟨nb, hnb⟩ : ∃ b, Y3.heap.size = b := ⟨_, rfl⟩
  rw [hnb] at hn ⊢
  obtain ⟨Y4, hY4⟩ : ∃ Y, Y = Y3.alloc (.cells #[.string (S.extract 0 k ++ strOfNums [ch] ++ S.extract (k + 1) S.size), .string (S.extract 0 k ++ S.extract (k + 1) S.size), .string (S.extract 0 k ++ strOfNums [ch] ++ S.extract k S.size), .string (S.extract 0 k), .string (S ++ strOfNums [ch])] 9) := ⟨_, rfl⟩
  rw [← hY4] at hx hn hHeld ⊢
  have E7 := Lib.hid (E6.out.trans hx)
  obtain ⟨T, hT, hTS⟩ := str_sel hn k2 qn q2 s8
  refine wpAnyH_now hHeld (fun hHeld2 => ?_)
  have HT := Lib.hid hT
  clear hY4 hnb hx hn hHeld hT
  refine wpAnyH_take (i := 44) (v := ?_) rfl (by kernel_rfl) (by kernel_rfl) (by kernel_rfl) (fun _ _ _ h => h) (Or.inl ⟨by rfl, ?_⟩) (by assumption) ?_
  rotate_left
  · intro w hSw; (try dsimp only at hSw); go_simp; try with_reducible rfl
  try simp only [Act.put, List.setIfInBounds_toArray, List.set_cons_zero, List.set_cons_succ]
  refine wpAnyH_take (i := 45) (v := ?_) rfl (by kernel_rfl) (by kernel_rfl) (by kernel_rfl) (fun _ _ _ h => h) (Or.inl ⟨by rfl, ?_⟩) (by assumption) ?_
  rotate_left
  · intro w hSw; (try dsimp only at hSw); have hcv := cell_later hSw HT.out; go_simp; try with_reducible rfl
  try simp only [Act.put, List.setIfInBounds_toArray, List.set_cons_zero, List.set_cons_succ]
  refine wpAnyH_ready (rs := [46]) (by kernel_rfl) (by simp) ?_
  refine AllReadyH.cons rfl (fun K hK => ?_) AllReadyH.nil
  go_simp
  refine hK.out _ _ (Ex.refl _) (fun hHeld => ?_)
  clear hK K
  try simp only [Act.put, List.setIfInBounds_toArray, List.set_cons_zero, List.set_cons_succ]
  refine wpAnyH_done (by kernel_rfl) ?_ _
  clear hHeld HT E6 E5 E4
  rotate_left
  go_simp
  refine hK.out _ _ (Ex.made _ _) (fun hHeld => ?_)
  clear hK K
  try simp only [Act.put, List.setIfInBounds_toArray, List.set_cons_zero, List.set_cons_succ]
  have hx := Ex.made Y1 (.cells #[.int .u8 ch] 5)
  have hn := Box.fresh Y1 #[.int .u8 ch] 5
  obtain ⟨nb, hnb⟩ : ∃ b, Y1.heap.size = b := ⟨_, rfl⟩
  rw [hnb] at hn ⊢
  obtain ⟨Y2, hY2⟩ : ∃ Y, Y = Y1.alloc (.cells #[.int .u8 ch] 5) := ⟨_, rfl⟩
  rw [← hY2] at hx hn hHeld ⊢
  have E5 := Lib.hid (E4.out.trans hx)
  have HN := Lib.hid hn
  refine wpAnyH_now hHeld (fun hHeld2 => ?_)
  clear hY2 hnb hx hn hHeld
  refine wpAnyH_take (i := 37) (v := ?_) rfl (by kernel_rfl) (by kernel_rfl) (by kernel_rfl) (fun _ _ _ h => h) (Or.inl ⟨by rfl, ?_⟩) (by assumption) ?_
  rotate_left
  · intro w hSw; (try dsimp only at hSw); have hcv := conv_one HN.out hSw; go_simp; try with_reducible rfl
  try simp only [Act.put, List.setIfInBounds_toArray, List.set_cons_zero, List.set_cons_succ]
  refine wpAnyH_take (i := 38) (v := ?_) rfl (by kernel_rfl) (by kernel_rfl) (by kernel_rfl) (fun _ _ _ h => h) (Or.inl ⟨by rfl, ?_⟩) (by assumption) ?_
  rotate_left
  · intro w hSw; (try dsimp only at hSw); go_simp; try with_reducible rfl
  try simp only [Act.put, List.setIfInBounds_toArray, List.set_cons_zero, List.set_cons_succ]
  clear HN
  refine wpAnyH_ready (rs := [4]) (by kernel_rfl) (by simp) ?_
  refine AllReadyH.cons rfl (fun K hK => ?_) AllReadyH.nil
  go_simp
  refine hK.out _ _ (Ex.made _ _) (fun hHeld => ?_)
  clear hK K
  try simp only [Act.put, List.setIfInBounds_toArray, List.set_cons_zero, List.set_cons_succ]
  have hx := Ex.made Y2 (.cells #[.int .u8 ch] 5)
  have hn := Box.fresh Y2 #[.int .u8 ch] 5
  obtain ⟨nb, hnb⟩ : ∃ b, Y2.heap.size = b := ⟨_, rfl⟩
  rw [hnb] at hn ⊢
  obtain ⟨Y3, hY3⟩ : ∃ Y, Y = Y2.alloc (.cells #[.int .u8 ch] 5) := ⟨_, rfl⟩
  rw [← hY3] at hx hn hHeld ⊢
  have E6 := Lib.hid (E5.out.trans hx)
  have HN := Lib.hid hn
  refine wpAnyH_now hHeld (fun hHeld2 => ?_)
  clear hY3 hnb hx hn hHeld
  refine wpAnyH_take (i := 5) (v := ?_) rfl (by kernel_rfl) (by kernel_rfl) (by kernel_rfl) (fun _ _ _ h => h) (Or.inl ⟨by rfl, ?_⟩) (by assumption) ?_
  rotate_left
  · intro w hSw; (try dsimp only at hSw); have hcv := conv_one HN.out hSw; go_simp; try with_reducible rfl
  try simp only [Act.put, List.setIfInBounds_toArray, List.set_cons_zero, List.set_cons_succ]
  refine wpAnyH_take (i := 6) (v := ?_) rfl (by kernel_rfl) (by kernel_rfl) (by kernel_rfl) (fun _ _ _ h => h) (Or.inl ⟨by rfl, ?_⟩) (by assumption) ?_
  rotate_left
  · intro w hSw; (try dsimp only at hSw); go_simp; try with_reducible rfl
  try simp only [Act.put, List.setIfInBounds_toArray, List.set_cons_zero, List.set_cons_succ]
  refine wpAnyH_take (i := 11) (v := ?_) rfl (by kernel_rfl) (by kernel_rfl) (by kernel_rfl) (fun _ _ _ h => h) (Or.inl ⟨by rfl, ?_⟩) (by assumption) ?_
  rotate_left
  · intro w hSw; (try dsimp only at hSw); go_simp; try with_reducible rfl
  try simp only [Act.put, List.setIfInBounds_toArray, List.set_cons_zero, List.set_cons_succ]
  clear HN
  refine wpAnyH_ready (rs := [39]) (by kernel_rfl) (by simp) ?_
  refine AllReadyH.cons rfl (fun K hK => ?_) AllReadyH.nil
  go_simp
  refine hK.out _ _ (Ex.made _ _) (fun hHeld => ?_)
  clear hK K
  try simp only [Act.put, List.setIfInBounds_toArray, List.set_cons_zero, List.set_cons_succ]
  have hx := Ex.made Y3 (.cells #[.string (S.extract 0 k ++ strOfNums [ch] ++ S.extract (k + 1) S.size), .string (S.extract 0 k ++ S.extract (k + 1) S.size), .string (S.extract 0 k ++ strOfNums [ch] ++ S.extract k S.size), .string (S.extract 0 k), .string (S ++ strOfNums [ch])] 9)
  have hn := Box.fresh Y3 #[.string (S.extract 0 k ++ strOfNums [ch] ++ S.extract (k + 1) S.size), .string (S.extract 0 k ++ S.extract (k + 1) S.size), .string (S.extract 0 k ++ strOfNums [ch] ++ S.extract k S.size), .string (S.extract 0 k), .string (S ++ strOfNums [ch])] 9
  obtain ⟨nb, hnb⟩ : ∃ b, Y3.heap.size = b := ⟨_, rfl⟩
  rw [hnb] at hn ⊢
  obtain ⟨Y4, hY4⟩ : ∃ Y, Y = Y3.alloc (.cells #[.string (S.extract 0 k ++ strOfNums [ch] ++ S.extract (k + 1) S.size), .string (S.extract 0 k ++ S.extract (k + 1) S.size), .string (S.extract 0 k ++ strOfNums [ch] ++ S.extract k S.size), .string (S.extract 0 k), .string (S ++ strOfNums [ch])] 9) := ⟨_, rfl⟩
  rw [← hY4] at hx hn hHeld ⊢
  have E7 := Lib.hid (E6.out.trans hx)
  obtain ⟨T, hT, hTS⟩ := str_sel hn k2 qn q2 s8
  refine wpAnyH_now hHeld (fun hHeld2 => ?_)
  have HT := Lib.hid hT
  clear hY4 hnb hx hn hHeld hT
  refine wpAnyH_take (i := 44) (v := ?_) rfl (by kernel_rfl) (by kernel_rfl) (by kernel_rfl) (fun _ _ _ h => h) (Or.inl ⟨by rfl, ?_⟩) (by assumption) ?_
  rotate_left
  · intro w hSw; (try dsimp only at hSw); go_simp; try with_reducible rfl
  try simp only [Act.put, List.setIfInBounds_toArray, List.set_cons_zero, List.set_cons_succ]
  refine wpAnyH_take (i := 45) (v := ?_) rfl (by kernel_rfl) (by kernel_rfl) (by kernel_rfl) (fun _ _ _ h => h) (Or.inl ⟨by rfl, ?_⟩) (by assumption) ?_
  rotate_left
  · intro w hSw; (try dsimp only at hSw); have hcv := cell_later hSw HT.out; go_simp; try with_reducible rfl
  try simp only [Act.put, List.setIfInBounds_toArray, List.set_cons_zero, List.set_cons_succ]
  refine wpAnyH_ready (rs := [46]) (by kernel_rfl) (by simp) ?_
  refine AllReadyH.cons rfl (fun K hK => ?_) AllReadyH.nil
  go_simp
  refine hK.out _ _ (Ex.refl _) (fun hHeld => ?_)
  clear hK K
  try simp only [Act.put, List.setIfInBounds_toArray, List.set_cons_zero, List.set_cons_succ]
  refine wpAnyH_done (by kernel_rfl) ?_ _
  clear hHeld HT E6 E5 E4
  rotate_left
  go_simp
  refine hK.out _ _ (Ex.made _ _) (fun hHeld => ?_)
  clear hK K
  try simp only [Act.put, List.setIfInBounds_toArray, List.set_cons_zero, List.set_cons_succ]
  have hx := Ex.made Y0 (.cells #[.int .u8 ch] 5)
  have hn := Box.fresh Y0 #[.int .u8 ch] 5
  obtain ⟨nb, hnb⟩ : ∃ b, Y0.heap.size = b := ⟨_, rfl⟩
  rw [hnb] at hn ⊢
  obtain ⟨Y1, hY1⟩ : ∃ Y, Y = Y0.alloc (.cells #[.int .u8 ch] 5) := ⟨_, rfl⟩
  rw [← hY1] at hx hn hHeld ⊢
  have E4 := Lib.hid (E3.out.trans hx)
  have HN := Lib.hid hn
  refine wpAnyH_now hHeld (fun hHeld2 => ?_)
  clear hY1 hnb hx hn hHeld
  refine wpAnyH_take (i := 37) (v := ?_) rfl (by kernel_rfl) (by kernel_rfl) (by kernel_rfl) (fun _ _ _ h => h) (Or.inl ⟨by rfl, ?_⟩) (by assumption) ?_
  rotate_left
  · intro w hSw; (try dsimp only at hSw); have hcv := conv_one HN.out hSw; go_simp; try with_reducible rfl
  try simp only [Act.put, List.setIfInBounds_toArray, List.set_cons_zero, List.set_cons_succ]
  refine wpAnyH_take (i := 38) (v := ?_) rfl (by kernel_rfl) (by kernel_rfl) (by kernel_rfl) (fun _ _ _ h => h) (Or.inl ⟨by rfl, ?_⟩) (by assumption) ?_
  rotate_left
  · intro w hSw; (try dsimp only at hSw); go_simp; try with_reducible rfl
  try simp only [Act.put, List.setIfInBounds_toArray, List.set_cons_zero, List.set_cons_succ]
  clear HN
  refine wpAnyH_ready (rs := [4, 24]) (by kernel_rfl) (by simp) ?_
  refine AllReadyH.cons rfl (fun K hK => ?_) (AllReadyH.cons rfl (fun K hK => ?_) AllReadyH.nil)
  go_simp
  refine hK.out _ _ (Ex.made _ _) (fun hHeld => ?_)
  clear hK K
  try simp only [Act.put, List.setIfInBounds_toArray, List.set_cons_zero, List.set_cons_succ]
  have hx := Ex.made Y1 (.cells #[.int .u8 ch] 5)
  have hn := Box.fresh Y1 #[.int .u8 ch] 5
  obtain ⟨nb, hnb⟩ : ∃ b, Y1.heap.size = b := ⟨_, rfl⟩
  rw [hnb] at hn ⊢
  obtain ⟨Y2, hY2⟩ : ∃ Y, Y = Y1.alloc (.cells #[.int .u8 ch] 5) := ⟨_, rfl⟩
  rw [← hY2] at hx hn hHeld ⊢
  have E5 := Lib.hid (E4.out.trans hx)
  have HN := Lib.hid hn
  refine wpAnyH_now hHeld (fun hHeld2 => ?_)
  clear hY2 hnb hx hn hHeld
  refine wpAnyH_take (i := 5) (v := ?_) rfl (by kernel_rfl) (by kernel_rfl) (by kernel_rfl) (fun _ _ _ h => h) (Or.inl ⟨by rfl, ?_⟩) (by assumption) ?_
  rotate_left
  · intro w hSw; (try dsimp only at hSw); have hcv := conv_one HN.out hSw; go_simp; try with_reducible rfl
  try simp only [Act.put, List.setIfInBounds_toArray, List.set_cons_zero, List.set_cons_succ]
  refine wpAnyH_take (i := 6) (v := ?_) rfl (by kernel_rfl) (by kernel_rfl) (by kernel_rfl) (fun _ _ _ h => h) (Or.inl ⟨by rfl, ?_⟩) (by assumption) ?_
  rotate_left
  · intro w hSw; (try dsimp only at hSw); go_simp; try with_reducible rfl
  try simp only [Act.put, List.setIfInBounds_toArray, List.set_cons_zero, List.set_cons_succ]
  refine wpAnyH_take (i := 11) (v := ?_) rfl (by kernel_rfl) (by kernel_rfl) (by kernel_rfl) (fun _ _ _ h => h) (Or.inl ⟨by rfl, ?_⟩) (by assumption) ?_
  rotate_left
  · intro w hSw; (try dsimp only at hSw); go_simp; try with_reducible rfl
  try simp only [Act.put, List.setIfInBounds_toArray, List.set_cons_zero, List.set_cons_succ]
  clear HN
  refine wpAnyH_ready (rs := [24]) (by kernel_rfl) (by simp) ?_
  refine AllReadyH.cons rfl (fun K hK => ?_) AllReadyH.nil
  go_simp
  refine hK.out _ _ (Ex.made _ _) (fun hHeld => ?_)
  clear hK K
  try simp only [Act.put, List.setIfInBounds_toArray, List.set_cons_zero, List.set_cons_succ]
  have hx := Ex.made Y2 (.cells #[.int .u8 ch] 5)
  have hn := Box.fresh Y2 #[.int .u8 ch] 5
  obtain ⟨nb, hnb⟩ : ∃ b, Y2.heap.size = b := ⟨_, rfl⟩
  rw [hnb] at hn ⊢
  obtain ⟨Y3, hY3⟩ : ∃ Y, Y = Y2.alloc (.cells #[.int .u8 ch] 5) := ⟨_, rfl⟩
  rw [← hY3] at hx hn hHeld ⊢
  have E6 := Lib.hid (E5.out.trans hx)
  have HN := Lib.hid hn
  refine wpAnyH_now hHeld (fun hHeld2 => ?_)
  clear hY3 hnb hx hn hHeld
  refine wpAnyH_take (i := 25) (v := ?_) rfl (by kernel_rfl) (by kernel_rfl) (by kernel_rfl) (fun _ _ _ h => h) (Or.inl ⟨by rfl, ?_⟩) (by assumption) ?_
  rotate_left
  · intro w hSw; (try dsimp only at hSw); have hcv := conv_one HN.out hSw; go_simp; try with_reducible rfl
  try simp only [Act.put, List.setIfInBounds_toArray, List.set_cons_zero, List.set_cons_succ]
  refine wpAnyH_take (i := 26) (v := ?_) rfl (by kernel_rfl) (by kernel_rfl) (by kernel_rfl) (fun _ _ _ h => h) (Or.inl ⟨by rfl, ?_⟩) (by assumption) ?_
  rotate_left
  · intro w hSw; (try dsimp only at hSw); go_simp; try with_reducible rfl
  try simp only [Act.put, List.setIfInBounds_toArray, List.set_cons_zero, List.set_cons_succ]
  refine wpAnyH_take (i := 30) (v := ?_) rfl (by kernel_rfl) (by kernel_rfl) (by kernel_rfl) (fun _ _ _ h => h) (Or.inl ⟨by rfl, ?_⟩) (by assumption) ?_
  rotate_left
  · intro w hSw; (try dsimp only at hSw); go_simp; try with_reducible rfl
  try simp only [Act.put, List.setIfInBounds_toArray, List.set_cons_zero, List.set_cons_succ]
  clear HN
  refine wpAnyH_ready (rs := [39]) (by kernel_rfl) (by simp) ?_
  refine AllReadyH.cons rfl (fun K hK => ?_) AllReadyH.nil
  go_simp
  refine hK.out _ _ (Ex.made _ _) (fun hHeld => ?_)
  clear hK K
  try simp only [Act.put, List.setIfInBounds_toArray, List.set_cons_zero, List.set_cons_succ]
  have hx := Ex.made Y3 (.cells #[.string (S.extract 0 k ++ strOfNums [ch] ++ S.extract (k + 1) S.size), .string (S.extract 0 k ++ S.extract (k + 1) S.size), .string (S.extract 0 k ++ strOfNums [ch] ++ S.extract k S.size), .string (S.extract 0 k), .string (S ++ strOfNums [ch])] 9)
  have hn := Box.fresh Y3 #[.string (S.extract 0 k ++ strOfNums [ch] ++ S.extract (k + 1) S.size), .string (S.extract 0 k ++ S.extract (k + 1) S.size), .string (S.extract 0 k ++ strOfNums [ch] ++ S.extract k S.size), .string (S.extract 0 k), .string (S ++ strOfNums [ch])] 9
  obtain ⟨nb, hnb⟩ : ∃ b, Y3.heap.size = b := ⟨_, rfl⟩
  rw [hnb] at hn ⊢
  obtain ⟨Y4, hY4⟩ : ∃ Y, Y = Y3.alloc (.cells #[.string (S.extract 0 k ++ strOfNums [ch] ++ S.extract (k + 1) S.size), .string (S.extract 0 k ++ S.extract (k + 1) S.size), .string (S.extract 0 k ++ strOfNums [ch] ++ S.extract k S.size), .string (S.extract 0 k), .string (S ++ strOfNums [ch])] 9) := ⟨_, rfl⟩
  rw [← hY4] at hx hn hHeld ⊢
  have E7 := Lib.hid (E6.out.trans hx)
  obtain ⟨T, hT, hTS⟩ := str_sel hn k2 qn q2 s8
  refine wpAnyH_now hHeld (fun hHeld2 => ?_)
  have HT := Lib.hid hT
  clear hY4 hnb hx hn hHeld hT
  refine wpAnyH_take (i := 44) (v := ?_) rfl (by kernel_rfl) (by kernel_rfl) (by kernel_rfl) (fun _ _ _ h => h) (Or.inl ⟨by rfl, ?_⟩) (by assumption) ?_
  rotate_left
  · intro w hSw; (try dsimp only at hSw); go_simp; try with_reducible rfl
  try simp only [Act.put, List.setIfInBounds_toArray, List.set_cons_zero, List.set_cons_succ]
  refine wpAnyH_take (i := 45) (v := ?_) rfl (by kernel_rfl) (by kernel_rfl) (by kernel_rfl) (fun _ _ _ h => h) (Or.inl ⟨by rfl, ?_⟩) (by assumption) ?_
  rotate_left
  · intro w hSw; (try dsimp only at hSw); have hcv := cell_later hSw HT.out; go_simp; try with_reducible rfl
  try simp only [Act.put, List.setIfInBounds_toArray, List.set_cons_zero, List.set_cons_succ]
  refine wpAnyH_ready (rs := [46]) (by kernel_rfl) (by simp) ?_
  refine AllReadyH.cons rfl (fun K hK => ?_) AllReadyH.nil
  go_simp
  refine hK.out _ _ (Ex.refl _) (fun hHeld => ?_)
  clear hK K
  try simp only [Act.put, List.setIfInBounds_toArray, List.set_cons_zero, List.set_cons_succ]
  refine wpAnyH_done (by kernel_rfl) ?_ _
  clear hHeld HT E6 E5 E4
  rotate_left
  go_simp
  refine hK.out _ _ (Ex.made _ _) (fun hHeld => ?_)
  clear hK K
  try simp only [Act.put, List.setIfInBounds_toArray, List.set_cons_zero, List.set_cons_succ]
  have hx := Ex.made Y1 (.cells #[.int .u8 ch] 5)
  have hn := Box.fresh Y1 #[.int .u8 ch] 5
  obtain ⟨nb, hnb⟩ : ∃ b, Y1.heap.size = b := ⟨_, rfl⟩
  rw [hnb] at hn ⊢
  obtain ⟨Y2, hY2⟩ : ∃ Y, Y = Y1.alloc (.cells #[.int .u8 ch] 5) := ⟨_, rfl⟩
  rw [← hY2] at hx hn hHeld ⊢
  have E5 := Lib.hid (E4.out.trans hx)
  have HN := Lib.hid hn
  refine wpAnyH_now hHeld (fun hHeld2 => ?_)
  clear hY2 hnb hx hn hHeld
  refine wpAnyH_take (i := 25) (v := ?_) rfl (by kernel_rfl) (by kernel_rfl) (by kernel_rfl) (fun _ _ _ h => h) (Or.inl ⟨by rfl, ?_⟩) (by assumption) ?_
  rotate_left
  · intro w hSw; (try dsimp only at hSw); have hcv := conv_one HN.out hSw; go_simp; try with_reducible rfl
  try simp only [Act.put, List.setIfInBounds_toArray, List.set_cons_zero, List.set_cons_succ]
  refine wpAnyH_take (i := 26) (v := ?_) rfl (by kernel_rfl) (by kernel_rfl) (by kernel_rfl) (fun _ _ _ h => h) (Or.inl ⟨by rfl, ?_⟩) (by assumption) ?_
  rotate_left
  · intro w hSw; (try dsimp only at hSw); go_simp; try with_reducible rfl
  try simp only [Act.put, List.setIfInBounds_toArray, List.set_cons_zero, List.set_cons_succ]
  refine wpAnyH_take (i := 30) (v := ?_) rfl (by kernel_rfl) (by kernel_rfl) (by kernel_rfl) (fun _ _ _ h => h) (Or.inl ⟨by rfl, ?_⟩) (by assumption) ?_
  rotate_left
  · intro w hSw; (try dsimp only at hSw); go_simp; try with_reducible rfl
  try simp only [Act.put, List.setIfInBounds_toArray, List.set_cons_zero, List.set_cons_succ]
  clear HN
  refine wpAnyH_ready (rs := [4]) (by kernel_rfl) (by simp) ?_
  refine AllReadyH.cons rfl (fun K hK => ?_) AllReadyH.nil
  go_simp
  refine hK.out _ _ (Ex.made _ _) (fun hHeld => ?_)
  clear hK K
  try simp only [Act.put, List.setIfInBounds_toArray, List.set_cons_zero, List.set_cons_succ]
  have hx := Ex.made Y2 (.cells #[.int .u8 ch] 5)
  have hn := Box.fresh Y2 #[.int .u8 ch] 5
  obtain ⟨nb, hnb⟩ : ∃ b, Y2.heap.size = b := ⟨_, rfl⟩
  rw [hnb] at hn ⊢
  obtain ⟨Y3, hY3⟩ : ∃ Y, Y = Y2.alloc (.cells #[.int .u8 ch] 5) := ⟨_, rfl⟩
  rw [← hY3] at hx hn hHeld ⊢
  have E6 := Lib.hid (E5.out.trans hx)
  have HN := Lib.hid hn
  refine wpAnyH_now hHeld (fun hHeld2 => ?_)
  clear hY3 hnb hx hn hHeld
  refine wpAnyH_take (i := 5) (v := ?_) rfl (by kernel_rfl) (by kernel_rfl) (by kernel_rfl) (fun _ _ _ h => h) (Or.inl ⟨by rfl, ?_⟩) (by assumption) ?_
  rotate_left
  · intro w hSw; (try dsimp only at hSw); have hcv := conv_one HN.out hSw; go_simp; try with_reducible rfl
  try simp only [Act.put, List.setIfInBounds_toArray, List.set_cons_zero, List.set_cons_succ]
  refine wpAnyH_take (i := 6) (v := ?_) rfl (by kernel_rfl) (by kernel_rfl) (by kernel_rfl) (fun _ _ _ h => h) (Or.inl ⟨by rfl, ?_⟩) (by assumption) ?_
  rotate_left
  · intro w hSw; (try dsimp only at hSw); go_simp; try with_reducible rfl
  try simp only [Act.put, List.setIfInBounds_toArray, List.set_cons_zero, List.set_cons_succ]
  refine wpAnyH_take (i := 11) (v := ?_) rfl (by kernel_rfl) (by kernel_rfl) (by kernel_rfl) (fun _ _ _ h => h) (Or.inl ⟨by rfl, ?_⟩) (by assumption) ?_
  rotate_left
  · intro w hSw; (try dsimp only at hSw); go_simp; try with_reducible rfl
  try simp only [Act.put, List.setIfInBounds_toArray, List.set_cons_zero, List.set_cons_succ]
  clear HN
  refine wpAnyH_ready (rs := [39]) (by kernel_rfl) (by simp) ?_
  refine AllReadyH.cons rfl (fun K hK => ?_) AllReadyH.nil
  go_simp
  refine hK.out _ _ (Ex.made _ _) (fun hHeld => ?_)
  clear hK K
  try simp only [Act.put, List.setIfInBounds_toArray, List.set_cons_zero, List.set_cons_succ]
  have hx := Ex.made Y3 (.cells #[.string (S.extract 0 k ++ strOfNums [ch] ++ S.extract (k + 1) S.size), .string (S.extract 0 k ++ S.extract (k + 1) S.size), .string (S.extract 0 k ++ strOfNums [ch] ++ S.extract k S.size), .string (S.extract 0 k), .string (S ++ strOfNums [ch])] 9)
  have hn := Box.fresh Y3 #[.string (S.extract 0 k ++ strOfNums [ch] ++ S.extract (k + 1) S.size), .string (S.extract 0 k ++ S.extract (k + 1) S.size), .string (S.extract 0 k ++ strOfNums [ch] ++ S.extract k S.size), .string (S.extract 0 k), .string (S ++ strOfNums [ch])] 9
  obtain ⟨nb, hnb⟩ : ∃ b, Y3.heap.size = b := ⟨_, rfl⟩
  rw [hnb] at hn ⊢
  obtain ⟨Y4, hY4⟩ : ∃ Y, Y = Y3.alloc (.cells #[.string (S.extract 0 k ++ strOfNums [ch] ++ S.extract (k + 1) S.size), .string (S.extract 0 k ++ S.extract (k + 1) S.size), .string (S.extract 0 k ++ strOfNums [ch] ++ S.extract k S.size), .string (S.extract 0 k), .string (S ++ strOfNums [ch])] 9) := ⟨_, rfl⟩
  rw [← hY4] at hx hn hHeld ⊢
  have E7 := Lib.hid (E6.out.trans hx)
  obtain ⟨T, hT, hTS⟩ := str_sel hn k2 qn q2 s8
  refine wpAnyH_now hHeld (fun hHeld2 => ?_)
  have HT := Lib.hid hT
  clear hY4 hnb hx hn hHeld hT
  refine wpAnyH_take (i := 44) (v := ?_) rfl (by kernel_rfl) (by kernel_rfl) (by kernel_rfl) (fun _ _ _ h => h) (Or.inl ⟨by rfl, ?_⟩) (by assumption) ?_
  rotate_left
  · intro w hSw; (try dsimp only at hSw); go_simp; try with_reducible rfl
  try simp only [Act.put, List.setIfInBounds_toArray, List.set_cons_zero, List.set_cons_succ]
  refine wpAnyH_take (i := 45) (v := ?_) rfl (by kernel_rfl) (by kernel_rfl) (by kernel_rfl) (fun _ _ _ h => h) (Or.inl ⟨by rfl, ?_⟩) (by assumption) ?_
  rotate_left
  · intro w hSw; (try dsimp only at hSw); have hcv := cell_later hSw HT.out; go_simp; try with_reducible rfl
  try simp only [Act.put, List.setIfInBounds_toArray, List.set_cons_zero, List.set_cons_succ]
  refine wpAnyH_ready (rs := [46]) (by kernel_rfl) (by simp) ?_
  refine AllReadyH.cons rfl (fun K hK => ?_) AllReadyH.nil
  go_simp
  refine hK.out _ _ (Ex.refl _) (fun hHeld => ?_)
  clear hK K
  try simp only [Act.put, List.setIfInBounds_toArray, List.set_cons_zero, List.set_cons_succ]
  refine wpAnyH_done (by kernel_rfl) ?_ _
  clear hHeld HT E6 E5 E4
  rotate_left
  all_goals
    clear c1 c2 c3 c4 c5 c6 kq kt k0 kw sc E3 hHeld2
    have DA := Lib.hid (fun (W : World) (v : Value) (k : Bs W v (numS T)) => (decode_any k).mono (fun e w' h => dec_all h))
    have DB := Lib.hid (fun (W : World) (v : Value) (k : Bs W v (numS T)) => (rdecode_any k).mono (fun e w' h => dec_all h))
    obtain ⟨f1, f2⟩ := dec_len (numS T)
    have SA := Lib.hid (fun (W : World) (g : Int) (fa fb : Value) (h : RdP W fa (fD (decD (numS T)))) (k : RdP W fb (fD (decD (numS T)))) => same_any (g := g) h k f1 f2)
    have kcv := fun w : World => Lib.run_convert_string_bytes (P := Try.prog) w 9 25 5 T Try.underlying9 Try.underlying25 Try.underlying5
    have KB := Lib.hid (fun w : World => bytes_bs w T (grownCap w T.size 0 5) (grown_le _ _ _) (by omega))
    have KX := Lib.hid (fun w : World => bytes_ex w 5 T)
    clear f1 f2
    generalize decD (numS T) = r at *
    generalize gD r = gg at *
    generalize fD r = G at *
    generalize eD r = ev at *
    generalize aD r = av at *
    go_wp2_with fail
    refine (DA.out _ _ (KB.out Y4)).mono ?_
    rintro e w1 ⟨aa, ca, rfl, hr, hx⟩
    have E8 := Lib.hid (E7.out.trans ((KX.out Y4).trans hx))
    have R1 := Lib.hid hr
    clear hr hx
    go_upto_region 9 with fail
    have e2 := Ex.made w1 (.cells #[.int .i64 gg, .slice aa G.length ca] 24)
    have n2 := Box.fresh w1 #[.int .i64 gg, .slice aa G.length ca] 24
    have R2 := Lib.hid (R1.out.ex e2)
    have E9 := Lib.hid (E8.out.trans e2)
    obtain ⟨pb, hpb⟩ : ∃ b, w1.heap.size = b := ⟨_, rfl⟩
    rw [hpb] at n2 ⊢
    obtain ⟨W, hW⟩ : ∃ W, W = w1.alloc (.cells #[.int .i64 gg, .slice aa G.length ca] 24) := ⟨_, rfl⟩
    rw [← hW] at e2 n2 R2 E9 ⊢
    have N2 := Lib.hid n2
    clear hW hpb e2 n2 R1 E8
    go_wp2_with fail
    refine (DB.out _ _ (KB.out W)).mono ?_
    rintro e w2 ⟨ab, cb, rfl, hr, hx⟩
    have hx2 := (KX.out W).trans hx
    have E3 := Lib.hid (E9.out.trans hx2)
    have R3 := Lib.hid (R2.out.ex hx2)
    have N3 := Lib.hid (N2.out.ex hx2)
    have S3 := Lib.hid hr
    clear hr hx hx2 E9 R2 N2
    go_upto_region 10 with fail
    have e2 := Ex.made w2 (.cells #[.int .i64 gg, .slice ab G.length cb] 24)
    have n2 := Box.fresh w2 #[.int .i64 gg, .slice ab G.length cb] 24
    have R4 := Lib.hid (R3.out.ex e2)
    have S4 := Lib.hid (S3.out.ex e2)
    have E4 := Lib.hid (E3.out.trans e2)
    have N4 := Lib.hid (N3.out.ex e2)
    obtain ⟨qb, hqb⟩ : ∃ b, w2.heap.size = b := ⟨_, rfl⟩
    rw [hqb] at n2 ⊢
    obtain ⟨V, hV⟩ : ∃ W, W = w2.alloc (.cells #[.int .i64 gg, .slice ab G.length cb] 24) := ⟨_, rfl⟩
    rw [← hV] at e2 n2 R4 S4 E4 N4 ⊢
    have M4 := Lib.hid n2
    clear hV hqb e2 n2 R3 S3 E3 N3 kcv
    go_wp2_with fail
    refine (told_any V).mono ?_
    rintro e w3 ⟨rfl, hx⟩
    have E5 := Lib.hid (E4.out.trans hx)
    have R5 := Lib.hid (R4.out.ex hx)
    have S5 := Lib.hid (S4.out.ex hx)
    have n5 := N4.out.ex hx
    have m5 := M4.out.ex hx
    have x0 : w3.cell? ⟨pb, 0, none⟩ = some (.int .i64 gg) := n5.cell 0
    have x1 : w3.cell? ⟨pb, 1, none⟩ = some (.slice aa G.length ca) := n5.cell 1
    have y0 : w3.cell? ⟨qb, 0, none⟩ = some (.int .i64 gg) := m5.cell 0
    have y1 : w3.cell? ⟨qb, 1, none⟩ = some (.slice ab G.length cb) := m5.cell 1
    clear hx E4 R4 S4 N4 M4 n5 m5
    go_wp2_with fail
    refine (SA.out w3 gg _ _ R5.out S5.out).mono ?_
    rintro e w4 ⟨rfl, hx⟩
    have E6 := Lib.hid (E5.out.trans hx)
    clear hx x0 x1 y0 y1
    go_wp2_with fail
    go_ret
    exact ⟨by simp, E6.out⟩

end Go.Proofs.Ytmajnjbjoagihaa
