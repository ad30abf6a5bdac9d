/- ModelSleeps: who sleeps wakes at their time, in order. -/
import Derived.Test.YtmlobpapjfkbmaaPSleepsP16
import Derived.Test.YtmlobpapjfkbmaaK7
namespace Go.Proofs.Ytmlobpapjfkbmaa
open Go.RowKit
set_option linter.unusedVariables false
set_option maxRecDepth 20000
set_option linter.unusedSimpArgs false

def i4Z (x y : Nat) : Array Value := #[.int .i64 10, .int .i64 0, .int .i64 (x : Nat), .int .i64 (y : Nat)]
def f4Z (x y : Nat) : Array Value := #[.int .i64 8, .int .i64 1, .int .i64 0, .int .i64 0, .int .i64 8, .int .i64 2, .int .i64 0, .int .i64 0, .int .i64 10, .int .i64 0, .int .i64 (x : Nat), .int .i64 (y : Nat)]
theorem sleep_any (w : World) (t x y : Nat) (ht : t < 500) (hx : t / 256 = x) (hy : t % 256 = y) : Calls Try.prog 32 #[.int .i64 (t : Nat)] w fun e w' => ∃ b, e = .returned (.slice (some ⟨b, 0, none⟩) 1 1) ∧ Box w' b (i4Z x y) 40 ∧ Ex w w' := by
  have e1 := and255Z t
  rw [hy] at e1
  have e2 : (t : Int) / 256 = (x : Int) := by omega
  have hb := Box.fresh w (i4Z x y) 40
  have hx := Ex.made w (.cells (i4Z x y) 40)
  unfold i4Z at *
  clear hy
  go_enter Try.func32, Try.ntmps32
  go_wp2_with fail
  go_ret
  exact ⟨_, rfl, hb, hx⟩
theorem progZ {Y : World} {nb b0 b1 b2 x1 y1 x2 y2 x3 y3 : Nat} (h : Box Y nb #[.slice (some ⟨b0, 0, none⟩) 3 3, .slice (some ⟨b1, 0, none⟩) 1 1, .slice (some ⟨b2, 0, none⟩) 1 1] 42) (h0 : Box Y b0 (f4Z x1 y1) 40) (h1 : Box Y b1 (i4Z x2 y2) 40) (h2 : Box Y b2 (i4Z x3 y3) 40) : C15.RdP Y (.slice (some ⟨nb, 0, none⟩) 3 3) (FZ x1 y1 x2 y2 x3 y3) :=
  rdP_box (F := FZ x1 y1 x2 y2 x3 y3) (cap := 3) (lv := fun i => if i = 0 then .slice (some ⟨b0, 0, none⟩) 3 3 else if i = 1 then .slice (some ⟨b1, 0, none⟩) 1 1 else .slice (some ⟨b2, 0, none⟩) 1 1) h (by show 3 ≤ 3; omega) (fun i hi => by
    have hi : i < 3 := hi
    rcases (by omega : i = 0 ∨ i = 1 ∨ i = 2) with rfl | rfl | rfl
    · exact rdI_box (l := [(8, 1, 0, 0), (8, 2, 0, 0), (10, 0, (x1 : Int), (y1 : Int))]) (cap := 3) h0 (Nat.le_refl _)
    · exact rdI_box (l := [(10, 0, (x2 : Int), (y2 : Int))]) (cap := 1) h1 (Nat.le_refl _)
    · exact rdI_box (l := [(10, 0, (x3 : Int), (y3 : Int))]) (cap := 1) h2 (Nat.le_refl _))
def t3Z (a b c : Nat) : Array Value := #[.int .i64 (a : Nat), .int .i64 (b : Nat), .int .i64 (c : Nat)]
theorem tcellZ {w : World} {tb a b c g : Nat} (h : Box w tb (t3Z a b c) 3) (hg : g ≤ 2) : w.cell? ⟨tb, g, none⟩ = some (.int .i64 (TZ a b c g : Nat)) := by
  rcases (by omega : g = 0 ∨ g = 1 ∨ g = 2) with rfl | rfl | rfl
  · exact h.cell 0
  · exact h.cell 1
  · exact h.cell 2
theorem TZ_lt {a b c : Nat} (ha : a < 500) (hb : b < 500) (hc : c < 500) (g : Nat) : TZ a b c g < 500 := by
  unfold TZ; split
  · exact ha
  · split <;> assumption

/-- The rounds of the turns. -/
structure DoZ (B : Nat) (w V : World) (mb tb : Nat) (F : Fns) (a b c i : Nat) : Prop where
  mo : Mo B (fun _ => False) V mb F 0 i (sZ a b c i)
  box : Box V tb (t3Z a b c) 3
  ex : Ex w V
/-- The rounds of the ticks. -/
structure TickZ (B : Nat) (w V : World) (mb tb : Nat) (F : Fns) (a b c q : Nat) (last : Int) : Prop where
  mo : Mo B (fun _ => False) V mb F 0 5 (tZ a b c q)
  box : Box V tb (t3Z a b c) 3
  ex : Ex w V
  last : 0 ≤ last ∨ ∀ g, g ≤ 2 → ¬ TZ a b c g + 1 ≤ q

set_option maxRecDepth 10000 in
set_option maxHeartbeats 51200000 in
theorem sleeps_walk (a b c d : Int) (ta tb tc s0 : Nat) (w : World) (ha : (IntKind.u64.wrap a).tmod 500 = (ta : Int)) (ha2 : ta < 500) (hb : (IntKind.u64.wrap b).tmod 500 = (tb : Int)) (hb2 : tb < 500) (hc : (IntKind.u64.wrap c).tmod 500 = (tc : Int)) (hc2 : tc < 500) (hd : (IntKind.u64.wrap d).tmod 100 = (s0 : Int)) (hd2 : s0 < 100) :
    Calls Try.prog 11 #[.int .i64 a, .int .i64 b, .int .i64 c, .int .i64 d] w fun e w' => e = .returned (.bool true) ∧ Below w.heap.size w w' := by
  have e0 : IntKind.i64.wrap (ta : Int) = (ta : Int) := by rw [IntKind.wrap_i64]; omega
  have e1 : IntKind.i64.wrap (tb : Int) = (tb : Int) := by rw [IntKind.wrap_i64]; omega
  have e2 : IntKind.i64.wrap (tc : Int) = (tc : Int) := by rw [IntKind.wrap_i64]; omega
  have e3 : IntKind.i64.wrap (s0 : Int) = (s0 : Int) := by rw [IntKind.wrap_i64]; omega
  have e4 : IntKind.i64.wrap (1 + (s0 : Int)) = ((s0 + 1 : Nat) : Int) := by rw [IntKind.wrap_i64]; omega
  obtain ⟨s, hs⟩ : ∃ k, s0 + 1 = k := ⟨_, rfl⟩
  rw [hs] at e4
  have hs1 : 1 ≤ s ∧ s ≤ 100 := by omega
  obtain ⟨x1, hx1⟩ : ∃ q, ta / 256 = q := ⟨_, rfl⟩
  obtain ⟨y1, hy1⟩ : ∃ q, ta % 256 = q := ⟨_, rfl⟩
  obtain ⟨x2, hx2⟩ : ∃ q, tb / 256 = q := ⟨_, rfl⟩
  obtain ⟨y2, hy2⟩ : ∃ q, tb % 256 = q := ⟨_, rfl⟩
  obtain ⟨x3, hx3⟩ : ∃ q, tc / 256 = q := ⟨_, rfl⟩
  obtain ⟨y3, hy3⟩ : ∃ q, tc % 256 = q := ⟨_, rfl⟩
  have d1 := and255Z ta
  rw [hy1] at d1
  have d2 : (ta : Int) / 256 = (x1 : Int) := by omega
  have HS1 := Lib.hid (fun V => sleep_any V tb x2 y2 hb2 hx2 hy2)
  have HS2 := Lib.hid (fun V => sleep_any V tc x3 y3 hc2 hx3 hy3)
  have HMay := Lib.hid (may_Z (x1 := x1) (y1 := y1) (x2 := x2) (y2 := y2) (x3 := x3) (y3 := y3) (by omega) (by omega) (by omega) (by omega) (by omega) (by omega))
  have HGo : Hid (∀ i, i < 5 → i - 2 < (sZ ta tb tc i).gs.length ∧ (sZ ta tb tc i).st.getD (i - 2) 0 = 1 ∧ stepM (FZ x1 y1 x2 y2 x3 y3) (sZ ta tb tc i) (i - 2) = sZ ta tb tc (i + 1)) := Lib.hid (fun i hi => sZ_go (by omega) (by omega) (by omega) hi)
  have HLT : Hid (∀ g, TZ ta tb tc g < 500) := Lib.hid (TZ_lt ha2 hb2 hc2)
  have bt := Box.fresh w (t3Z ta tb tc) 3
  have xt := Ex.made w (.cells (t3Z ta tb tc) 3)
  clear hs hx1 hy1 hx2 hy2 hx3 hy3
  go_enter Try.func11, Try.ntmps11
  go_upto_region 3 with fail
  obtain ⟨tk, htk⟩ : ∃ k, w.heap.size = k := ⟨_, rfl⟩
  rw [htk] at bt
  rw [htk]
  unfold t3Z at bt xt
  generalize w.alloc (.cells #[.int .i64 (ta : Nat), .int .i64 (tb : Nat), .int .i64 (tc : Nat)] 3) = W1 at *
  have HBT : Hid (Box W1 tk (t3Z ta tb tc) 3) := Lib.hid bt
  have HX1 := Lib.hid xt
  have HC0 : Hid (∀ V, Ex W1 V → V.cell? ⟨tk, 0, none⟩ = some (.int .i64 (ta : Nat))) := Lib.hid (fun V x => (HBT.out.ex x).cell 0)
  have HC1 : Hid (∀ V, Ex W1 V → V.cell? ⟨tk, 1, none⟩ = some (.int .i64 (tb : Nat))) := Lib.hid (fun V x => (HBT.out.ex x).cell 1)
  have HC2 : Hid (∀ V, Ex W1 V → V.cell? ⟨tk, 2, none⟩ = some (.int .i64 (tc : Nat))) := Lib.hid (fun V x => (HBT.out.ex x).cell 2)
  clear bt xt e0 e1 e2 ha hb hc
  refine wp_region_last (S := fun w' => Ex W1 w') 12 13 (by kernel_rfl) (by kernel_rfl) (by kernel_rfl) (ex_drw W1) (fun hHeld => ?_)
  generalize W1.drew = Y0 at *
  refine heldL_take (i := 0) (v := ?_) rfl (by kernel_rfl) (by kernel_rfl) (by kernel_rfl) (by kernel_rfl) (fun _ _ _ h => h) (Or.inl ⟨by rfl, ?_⟩) (by assumption) ?_
  rotate_left
  · intro w hSw; (try dsimp only at hSw); have d0 := HC0.out w hSw; go_simp; try with_reducible rfl
  try simp only [Act.put, List.setIfInBounds_toArray, List.set_cons_zero, List.set_cons_succ]
  refine heldL_take (i := 1) (v := ?_) rfl (by kernel_rfl) (by kernel_rfl) (by kernel_rfl) (by kernel_rfl) (fun _ _ _ h => h) (Or.inl ⟨by rfl, ?_⟩) (by assumption) ?_
  rotate_left
  · intro w hSw; (try dsimp only at hSw); have d0 := HC0.out w hSw; go_simp; try with_reducible rfl
  try simp only [Act.put, List.setIfInBounds_toArray, List.set_cons_zero, List.set_cons_succ]
  refine heldL_take (i := 2) (v := ?_) rfl (by kernel_rfl) (by kernel_rfl) (by kernel_rfl) (by kernel_rfl) (fun _ _ _ h => h) (Or.inl ⟨by rfl, ?_⟩) (by assumption) ?_
  rotate_left
  · intro w hSw; (try dsimp only at hSw); have d0 := HC0.out w hSw; go_simp; try with_reducible rfl
  try simp only [Act.put, List.setIfInBounds_toArray, List.set_cons_zero, List.set_cons_succ]
  refine heldL_take (i := 3) (v := ?_) rfl (by kernel_rfl) (by kernel_rfl) (by kernel_rfl) (by kernel_rfl) (fun _ _ _ h => h) (Or.inl ⟨by rfl, ?_⟩) (by assumption) ?_
  rotate_left
  · intro w hSw; (try dsimp only at hSw); have d0 := HC0.out w hSw; go_simp; try with_reducible rfl
  try simp only [Act.put, List.setIfInBounds_toArray, List.set_cons_zero, List.set_cons_succ]
  refine heldL_take (i := 4) (v := ?_) rfl (by kernel_rfl) (by kernel_rfl) (by kernel_rfl) (by kernel_rfl) (fun _ _ _ h => h) (Or.inl ⟨by rfl, ?_⟩) (by assumption) ?_
  rotate_left
  · intro w hSw; (try dsimp only at hSw); have d0 := HC0.out w hSw; go_simp; try with_reducible rfl
  try simp only [Act.put, List.setIfInBounds_toArray, List.set_cons_zero, List.set_cons_succ]
  refine heldL_take (i := 5) (v := ?_) rfl (by kernel_rfl) (by kernel_rfl) (by kernel_rfl) (by kernel_rfl) (fun _ _ _ h => h) (Or.inl ⟨by rfl, ?_⟩) (by assumption) ?_
  rotate_left
  · intro w hSw; (try dsimp only at hSw); have d0 := HC0.out w hSw; go_simp; try with_reducible rfl
  try simp only [Act.put, List.setIfInBounds_toArray, List.set_cons_zero, List.set_cons_succ]
  refine heldL_take (i := 6) (v := ?_) rfl (by kernel_rfl) (by kernel_rfl) (by kernel_rfl) (by kernel_rfl) (fun _ _ _ h => h) (Or.inl ⟨by rfl, ?_⟩) (by assumption) ?_
  rotate_left
  · intro w hSw; (try dsimp only at hSw); have d0 := HC0.out w hSw; go_simp; try with_reducible rfl
  try simp only [Act.put, List.setIfInBounds_toArray, List.set_cons_zero, List.set_cons_succ]
  refine heldL_take (i := 7) (v := ?_) rfl (by kernel_rfl) (by kernel_rfl) (by kernel_rfl) (by kernel_rfl) (fun _ _ _ h => h) (Or.inl ⟨by rfl, ?_⟩) (by assumption) ?_
  rotate_left
  · intro w hSw; (try dsimp only at hSw); have d0 := HC0.out w hSw; go_simp; try with_reducible rfl
  try simp only [Act.put, List.setIfInBounds_toArray, List.set_cons_zero, List.set_cons_succ]
  refine heldL_take (i := 8) (v := ?_) rfl (by kernel_rfl) (by kernel_rfl) (by kernel_rfl) (by kernel_rfl) (fun _ _ _ h => h) (Or.inl ⟨by rfl, ?_⟩) (by assumption) ?_
  rotate_left
  · intro w hSw; (try dsimp only at hSw); have d0 := HC0.out w hSw; go_simp; try with_reducible rfl
  try simp only [Act.put, List.setIfInBounds_toArray, List.set_cons_zero, List.set_cons_succ]
  refine heldL_take (i := 9) (v := ?_) rfl (by kernel_rfl) (by kernel_rfl) (by kernel_rfl) (by kernel_rfl) (fun _ _ _ h => h) (Or.inl ⟨by rfl, ?_⟩) (by assumption) ?_
  rotate_left
  · intro w hSw; (try dsimp only at hSw); have d0 := HC0.out w hSw; go_simp; try with_reducible rfl
  try simp only [Act.put, List.setIfInBounds_toArray, List.set_cons_zero, List.set_cons_succ]
  refine heldL_take (i := 10) (v := ?_) rfl (by kernel_rfl) (by kernel_rfl) (by kernel_rfl) (by kernel_rfl) (fun _ _ _ h => h) (Or.inl ⟨by rfl, ?_⟩) (by assumption) ?_
  rotate_left
  · intro w hSw; (try dsimp only at hSw); have d0 := HC0.out w hSw; go_simp; try with_reducible rfl
  try simp only [Act.put, List.setIfInBounds_toArray, List.set_cons_zero, List.set_cons_succ]
  refine heldL_ready (rs := [11]) (by kernel_rfl) (by simp) ?_
  refine AllL.cons rfl (fun K hK => ?_) AllL.nil
  go_simp
  have b9 := Box.fresh Y0 #[.int .i64 8, .int .i64 1, .int .i64 0, .int .i64 0, .int .i64 8, .int .i64 2, .int .i64 0, .int .i64 0, .int .i64 10, .int .i64 0, .int .i64 (x1 : Nat), .int .i64 (y1 : Nat)] 40
  have x9 := Ex.made Y0 (.cells #[.int .i64 8, .int .i64 1, .int .i64 0, .int .i64 0, .int .i64 8, .int .i64 2, .int .i64 0, .int .i64 0, .int .i64 10, .int .i64 0, .int .i64 (x1 : Nat), .int .i64 (y1 : Nat)] 40)
  obtain ⟨ib, hib⟩ : ∃ k, Y0.heap.size = k := ⟨_, rfl⟩
  refine hK.out _ _ (fun _ => hHeld.trans x9) (fun hHeld => ?_)
  replace hHeld := hHeld (by decide)
  clear hK K
  try simp only [Act.put, List.setIfInBounds_toArray, List.set_cons_zero, List.set_cons_succ]
  rw [hib] at b9 ⊢
  obtain ⟨Y1, hZA⟩ : ∃ Z, Z = Y0.alloc (.cells #[.int .i64 8, .int .i64 1, .int .i64 0, .int .i64 0, .int .i64 8, .int .i64 2, .int .i64 0, .int .i64 0, .int .i64 10, .int .i64 0, .int .i64 (x1 : Nat), .int .i64 (y1 : Nat)] 40) := ⟨_, rfl⟩
  rw [← hZA] at b9 hHeld ⊢
  clear hZA x9 hib
  have HB0 : Hid (Box Y1 ib (f4Z x1 y1) 40) := Lib.hid b9
  clear b9
  refine heldL_ready (rs := [12]) (by kernel_rfl) (by simp) ?_
  refine AllL.cons rfl (fun K hK => ?_) AllL.nil
  go_simp
  refine hK.out _ _ (fun h => (h rfl).elim) (fun _ => ?_)
  clear hK K
  try simp only [Act.put, List.setIfInBounds_toArray, List.set_cons_zero, List.set_cons_succ]
  refine heldL_done (by kernel_rfl) ?_ _
  have HX1b := Lib.hid hHeld
  clear hHeld d1 d2
  go_upto_region 4 with fail
  refine wp_region_last (S := fun w' => Ex Y1 w') 13 14 (by kernel_rfl) (by kernel_rfl) (by kernel_rfl) (ex_drw Y1) (fun hHeld => ?_)
  generalize Y1.drew = Z0 at *
  have HD1 : Hid (∀ V, Ex Y1 V → V.cell? ⟨tk, 1, none⟩ = some (.int .i64 (tb : Nat))) := Lib.hid (fun V x => HC1.out V (HX1b.out.trans x))
  have HD2 : Hid (∀ V, Ex Y1 V → V.cell? ⟨tk, 2, none⟩ = some (.int .i64 (tc : Nat))) := Lib.hid (fun V x => HC2.out V (HX1b.out.trans x))
  refine heldL_take (i := 0) (v := ?_) rfl (by kernel_rfl) (by kernel_rfl) (by kernel_rfl) (by kernel_rfl) (fun _ _ _ h => h) (Or.inl ⟨by rfl, ?_⟩) (by assumption) ?_
  rotate_left
  · intro w hSw; (try dsimp only at hSw); have d0 := HD1.out w hSw; go_simp; try with_reducible rfl
  try simp only [Act.put, List.setIfInBounds_toArray, List.set_cons_zero, List.set_cons_succ]
  refine heldL_take (i := 1) (v := ?_) rfl (by kernel_rfl) (by kernel_rfl) (by kernel_rfl) (by kernel_rfl) (fun _ _ _ h => h) (Or.inl ⟨by rfl, ?_⟩) (by assumption) ?_
  rotate_left
  · intro w hSw; (try dsimp only at hSw); have d0 := HD1.out w hSw; go_simp; try with_reducible rfl
  try simp only [Act.put, List.setIfInBounds_toArray, List.set_cons_zero, List.set_cons_succ]
  refine heldL_take (i := 2) (v := ?_) rfl (by kernel_rfl) (by kernel_rfl) (by kernel_rfl) (by kernel_rfl) (fun _ _ _ h => h) (Or.inl ⟨by rfl, ?_⟩) (by assumption) ?_
  rotate_left
  · intro w hSw; (try dsimp only at hSw); have d0 := HD1.out w hSw; go_simp; try with_reducible rfl
  try simp only [Act.put, List.setIfInBounds_toArray, List.set_cons_zero, List.set_cons_succ]
  refine heldL_take (i := 3) (v := ?_) rfl (by kernel_rfl) (by kernel_rfl) (by kernel_rfl) (by kernel_rfl) (fun _ _ _ h => h) (Or.inl ⟨by rfl, ?_⟩) (by assumption) ?_
  rotate_left
  · intro w hSw; (try dsimp only at hSw); have d0 := HD1.out w hSw; go_simp; try with_reducible rfl
  try simp only [Act.put, List.setIfInBounds_toArray, List.set_cons_zero, List.set_cons_succ]
  refine heldL_take (i := 4) (v := ?_) rfl (by kernel_rfl) (by kernel_rfl) (by kernel_rfl) (by kernel_rfl) (fun _ _ _ h => h) (Or.inl ⟨by rfl, ?_⟩) (by assumption) ?_
  rotate_left
  · intro w hSw; (try dsimp only at hSw); have d0 := HD1.out w hSw; go_simp; try with_reducible rfl
  try simp only [Act.put, List.setIfInBounds_toArray, List.set_cons_zero, List.set_cons_succ]
  refine heldL_take (i := 6) (v := ?_) rfl (by kernel_rfl) (by kernel_rfl) (by kernel_rfl) (by kernel_rfl) (fun _ _ _ h => h) (Or.inl ⟨by rfl, ?_⟩) (by assumption) ?_
  rotate_left
  · intro w hSw; (try dsimp only at hSw); have d0 := HD2.out w hSw; go_simp; try with_reducible rfl
  try simp only [Act.put, List.setIfInBounds_toArray, List.set_cons_zero, List.set_cons_succ]
  refine heldL_take (i := 7) (v := ?_) rfl (by kernel_rfl) (by kernel_rfl) (by kernel_rfl) (by kernel_rfl) (fun _ _ _ h => h) (Or.inl ⟨by rfl, ?_⟩) (by assumption) ?_
  rotate_left
  · intro w hSw; (try dsimp only at hSw); have d0 := HD2.out w hSw; go_simp; try with_reducible rfl
  try simp only [Act.put, List.setIfInBounds_toArray, List.set_cons_zero, List.set_cons_succ]
  refine heldL_take (i := 8) (v := ?_) rfl (by kernel_rfl) (by kernel_rfl) (by kernel_rfl) (by kernel_rfl) (fun _ _ _ h => h) (Or.inl ⟨by rfl, ?_⟩) (by assumption) ?_
  rotate_left
  · intro w hSw; (try dsimp only at hSw); have d0 := HD2.out w hSw; go_simp; try with_reducible rfl
  try simp only [Act.put, List.setIfInBounds_toArray, List.set_cons_zero, List.set_cons_succ]
  refine heldL_take (i := 9) (v := ?_) rfl (by kernel_rfl) (by kernel_rfl) (by kernel_rfl) (by kernel_rfl) (fun _ _ _ h => h) (Or.inl ⟨by rfl, ?_⟩) (by assumption) ?_
  rotate_left
  · intro w hSw; (try dsimp only at hSw); have d0 := HD2.out w hSw; go_simp; try with_reducible rfl
  try simp only [Act.put, List.setIfInBounds_toArray, List.set_cons_zero, List.set_cons_succ]
  refine heldL_ready (rs := [5]) (by kernel_rfl) (by simp) ?_
  refine AllL.cons rfl (fun K hK => ?_) AllL.nil
  go_simp
  go_at_call 32
  refine (HS1.out Z0).mono ?_
  rintro e Z1 ⟨b1, rfl, k1, x1e⟩
  refine hK.out _ _ (fun _ => hHeld.trans x1e) (fun hHeld => ?_)
  replace hHeld := hHeld (by decide)
  clear hK K
  try simp only [Act.put, List.setIfInBounds_toArray, List.set_cons_zero, List.set_cons_succ]
  have HK1 := Lib.hid k1
  clear k1 x1e
  refine heldL_ready (rs := [10]) (by kernel_rfl) (by simp) ?_
  refine AllL.cons rfl (fun K hK => ?_) AllL.nil
  go_simp
  go_at_call 32
  refine (HS2.out Z1).mono ?_
  rintro e Z2 ⟨b2, rfl, k2, x2e⟩
  refine hK.out _ _ (fun _ => hHeld.trans x2e) (fun hHeld => ?_)
  replace hHeld := hHeld (by decide)
  clear hK K
  try simp only [Act.put, List.setIfInBounds_toArray, List.set_cons_zero, List.set_cons_succ]
  have HK2 := Lib.hid k2
  have HK1b := Lib.hid (HK1.out.ex x2e)
  clear k2 x2e HK1
  refine heldL_ready (rs := [11]) (by kernel_rfl) (by simp) ?_
  refine AllL.cons rfl (fun K hK => ?_) AllL.nil
  go_simp
  have b9 := Box.fresh Z2 #[.slice (some ⟨ib, 0, none⟩) 3 3, .slice (some ⟨b1, 0, none⟩) 1 1, .slice (some ⟨b2, 0, none⟩) 1 1] 42
  have x9 := Ex.made Z2 (.cells #[.slice (some ⟨ib, 0, none⟩) 3 3, .slice (some ⟨b1, 0, none⟩) 1 1, .slice (some ⟨b2, 0, none⟩) 1 1] 42)
  obtain ⟨nb, hnb⟩ : ∃ k, Z2.heap.size = k := ⟨_, rfl⟩
  refine hK.out _ _ (fun _ => hHeld.trans x9) (fun hHeld => ?_)
  replace hHeld := hHeld (by decide)
  clear hK K
  try simp only [Act.put, List.setIfInBounds_toArray, List.set_cons_zero, List.set_cons_succ]
  rw [hnb] at b9 ⊢
  obtain ⟨Z3, hZA⟩ : ∃ Z, Z = Z2.alloc (.cells #[.slice (some ⟨ib, 0, none⟩) 3 3, .slice (some ⟨b1, 0, none⟩) 1 1, .slice (some ⟨b2, 0, none⟩) 1 1] 42) := ⟨_, rfl⟩
  rw [← hZA] at b9 x9 hHeld ⊢
  have HP := Lib.hid (progZ b9 (HB0.out.ex hHeld) (HK1b.out.ex x9) (HK2.out.ex x9))
  have HTB := Lib.hid (Nat.lt_of_lt_of_le HBT.out.lt (HX1b.out.trans hHeld).size)
  clear b9 x9 hZA hnb
  refine heldL_ready (rs := [12]) (by kernel_rfl) (by simp) ?_
  refine AllL.cons rfl (fun K hK => ?_) AllL.nil
  go_simp
  go_at_call 17
  refine (build_any (gn := 0) HP.out (Ex.refl _) HMay.out).mono ?_
  rintro e Z4 ⟨mb, rfl, h4, x4⟩
  refine hK.out _ _ (fun _ => hHeld.trans x4) (fun hHeld => ?_)
  replace hHeld := hHeld (by decide)
  clear hK K
  try simp only [Act.put, List.setIfInBounds_toArray, List.set_cons_zero, List.set_cons_succ]
  have HX4 := Lib.hid (HX1.out.trans (HX1b.out.trans hHeld))
  have HB4 := Lib.hid (HBT.out.ex (HX1b.out.trans hHeld))
  obtain ⟨B, hB⟩ : ∃ k, Z3.heap.size = k := ⟨_, rfl⟩
  rw [hB] at h4 HTB
  have HM4 := Lib.hid h4
  have HBW : Hid (w.heap.size ≤ B) := Lib.hid (by have := HTB.out; omega)
  clear h4 x4 hB hHeld
  refine heldL_ready (rs := [13]) (by kernel_rfl) (by simp) ?_
  refine AllL.cons rfl (fun K hK => ?_) AllL.nil
  go_simp
  refine hK.out _ _ (fun h => (h rfl).elim) (fun _ => ?_)
  clear hK K
  try simp only [Act.put, List.setIfInBounds_toArray, List.set_cons_zero, List.set_cons_succ]
  refine heldL_done (by kernel_rfl) ?_ _
  clear HS1 HS2 HMay HC0 HC1 HC2 HD1 HD2 HB0 HK1b HK2 HP HX1 HX1b HBT
  rw [sZ_0 ta tb tc] at HM4
  obtain ⟨F, hF⟩ : ∃ F, FZ x1 y1 x2 y2 x3 y3 = F := ⟨_, rfl⟩
  rw [hF] at HM4 HGo
  clear hF
  go_wp2_with fail
  go_loopw [13] (fun iv V => ∃ i : Nat, i ≤ 5 ∧ iv = .int .i64 i ∧ DoZ B w V mb tk F ta tb tc i) (fun iv _ => 5 - (intOf iv).toNat)
  case atStart => exact ⟨0, by omega, rfl, HM4.out, HB4.out, HX4.out⟩
  case round =>
    obtain ⟨i, hi, rfl, hR⟩ := hrel
    have HR := Lib.hid hR
    clear hR HM4 HB4 HX4
    by_cases hlt : i < 5
    · have q1 : (i : Int) < 5 := by omega
      obtain ⟨g, hg⟩ : ∃ g, i - 2 = g := ⟨_, rfl⟩
      have em : max (0 : Int) ((i : Int) - 2) = (g : Int) := by omega
      have ew : IntKind.i64.wrap ((i : Int) - 2) = (i : Int) - 2 := by rw [IntKind.wrap_i64]; omega
      obtain ⟨k1, k2, k3⟩ := HGo.out i hlt
      rw [hg] at k1 k2 k3
      have KD := Lib.hid (mo_do HR.out.mo (by omega) (by have := HR.out.mo.inv.sl; omega) k1 k2)
      rw [k3] at KD
      unfold cmV at KD
      generalize tells F (sZ ta tb tc i) g = cc at KD
      clear k1 k2 k3 hg
      go_wp2_with fail
      refine KD.out.mono ?_
      rintro e w5 ⟨rfl, h5, t5⟩
      have HM5 := Lib.hid h5
      have HX5 := Lib.hid (t5.go HR.out.ex HBW.out)
      have HB5 := Lib.hid (t5.box HR.out.box (.inl HTB.out))
      clear h5 t5 KD
      go_wp2_with fail
      have x7 := Lib.hid (Ex.made w5 (.cells #[.int .i64 (cc.g : Nat), .int .i64 (cc.f : Nat), .int .i64 (cc.pc : Nat), .int .i64 cc.op, .int .i64 cc.v, .bool cc.bad] 34))
      go_round
      case rel => exact ⟨i + 1, by omega, by go_num, HM5.out.ex x7.out, HB5.out.ex x7.out, HX5.out.trans x7.out⟩
      case measure => simp [intOf]; omega
    · have q1 : ¬ (i : Int) < 5 := by omega
      have e5 : i = 5 := by omega
      have hM := HR.out.mo
      rw [e5, tZ_0] at hM
      have HM5 := Lib.hid hM
      have HB5 := Lib.hid HR.out.box
      have HX5 := Lib.hid HR.out.ex
      have k0 : (tZ ta tb tc 0).st.getD 0 0 = 3 := (stZ_at ta tb tc 0 (g := 0) (by omega)).trans (if_neg (by omega))
      have k1 : (tZ ta tb tc 0).st.getD 1 0 = 3 := (stZ_at ta tb tc 0 (g := 1) (by omega)).trans (if_neg (by omega))
      have k2 : (tZ ta tb tc 0).st.getD 2 0 = 3 := (stZ_at ta tb tc 0 (g := 2) (by omega)).trans (if_neg (by omega))
      have k3 : stuckM (tZ ta tb tc 0) = false := by
        have : cntW (tZ ta tb tc 0).wait 32 = 0 := rfl
        unfold stuckM
        rw [this]
        simp
      have KS0 := Lib.hid (mo_state HM5.out 0 3 k0)
      have KS1 := Lib.hid (mo_state HM5.out 1 3 k1)
      have KS2 := Lib.hid (mo_state HM5.out 2 3 k2)
      have KS3 := Lib.hid (mo_stuck HM5.out (by omega))
      rw [k3] at KS3
      have HDn : Hid (∀ g, g ≤ 2 → ¬ TZ ta tb tc g + 1 ≤ 0) := Lib.hid (fun g _ h => by omega)
      clear hM e5 k0 k1 k2 k3 HR HGo
      go_wp2_with fail
      refine KS0.out.mono ?_
      rintro e _ ⟨rfl, rfl⟩
      go_wp2_with fail
      refine KS1.out.mono ?_
      rintro e _ ⟨rfl, rfl⟩
      go_wp2_with fail
      refine KS2.out.mono ?_
      rintro e _ ⟨rfl, rfl⟩
      go_wp2_with fail
      refine KS3.out.mono ?_
      rintro e _ ⟨rfl, rfl⟩
      clear KS0 KS1 KS2 KS3
      go_wp2_with fail
      go_loopw [18, 19] (fun lv nv V => ∃ (q nw : Nat) (last : Int), q + s = nw ∧ q ≤ 700 ∧ nv = .int .i64 nw ∧ lv = .int .i64 last ∧ TickZ B w V mb tk F ta tb tc q last) (fun _ nv _ => 900 - (intOf nv).toNat)
      case atStart => exact ⟨0, s, -1, by omega, by omega, rfl, rfl, HM5.out, HB5.out, HX5.out, .inr HDn.out⟩
      case round =>
        obtain ⟨q, nw, last, hq, hq7, rfl, rfl, hR⟩ := hrel
        have HR := Lib.hid hR
        clear hR HM5 HB5 HX5 HDn
        by_cases hlt : nw < 700
        · have q1 : (nw : Int) < 700 := by omega
          have KT := Lib.hid (mo_tick HR.out.mo (by have := HR.out.mo.inv.sl; omega) (s : Int) s (Int.toNat_natCast s) (by omega) (by show q + s ≤ _; omega))
          rw [tick_Z HR.out.mo.inv.s, hq] at KT
          have HWm : Hid (∀ g, g ∈ wokeM (tZ ta tb tc q) s ↔ g ≤ 2 ∧ q < TZ ta tb tc g + 1 ∧ TZ ta tb tc g + 1 ≤ q + s) := Lib.hid (fun g => woke_mem)
          have HWo : Hid (∀ i, 0 < i → i < (wokeM (tZ ta tb tc q) s).length → ¬ (TZ ta tb tc ((wokeM (tZ ta tb tc q) s).getD i 0) < TZ ta tb tc ((wokeM (tZ ta tb tc q) s).getD (i - 1) 0)) ∧ ¬ (TZ ta tb tc ((wokeM (tZ ta tb tc q) s).getD (i - 1) 0) = TZ ta tb tc ((wokeM (tZ ta tb tc q) s).getD i 0) ∧ (wokeM (tZ ta tb tc q) s).getD i 0 < (wokeM (tZ ta tb tc q) s).getD (i - 1) 0)) := Lib.hid (fun i h0 hi => woke_ord h0 hi)
          have hlen : (wokeM (tZ ta tb tc q) s).length ≤ 5 := by
            have h1 := HR.out.mo.inv.sl
            unfold wokeM T13.dueS
            rw [List.length_map]
            exact Nat.le_trans (List.length_filter_le _ _) h1
          obtain ⟨L, hL⟩ : ∃ l, wokeM (tZ ta tb tc q) s = l := ⟨_, rfl⟩
          rw [hL] at KT HWm HWo hlen
          clear hL
          go_wp2_with fail
          refine KT.out.mono ?_
          rintro e w5 ⟨⟨u, rfl, hrow⟩, h5, t5⟩
          have HM5 := Lib.hid h5
          have HX5 := Lib.hid (t5.go HR.out.ex HBW.out)
          have HB5 := Lib.hid (t5.box HR.out.box (.inl HTB.out))
          obtain ⟨a5, c5, rfl, -, hc5, hr5⟩ := Rn.of hrow
          have HLa := Lib.hid HR.out.last
          clear h5 t5 KT hrow HR
          obtain ⟨ll, hll⟩ : ∃ k, L.length = k := ⟨_, rfl⟩
          rw [hll] at hr5 hc5 HWo hlen ⊢
          have HC5 := Lib.hid hr5
          have HLL := Lib.hid hll
          have HQ := Lib.hid hq
          clear hr5 hll hq
          go_wp2_with fail
          go_loopw [18, 21] (fun lv iv V => ∃ (i : Nat) (l' : Int), i ≤ ll ∧ iv = .int .i64 i ∧ lv = .int .i64 l' ∧ (0 ≤ l' ∨ (i = 0 ∧ l' = last)) ∧ Ex w5 V) (fun _ iv _ => ll - (intOf iv).toNat)
          case atStart => exact ⟨0, last, Nat.zero_le _, rfl, rfl, .inr ⟨rfl, rfl⟩, Ex.refl _⟩
          case round =>
            obtain ⟨i, l', hi, rfl, rfl, hl', hx⟩ := hrel
            have HXX := Lib.hid hx
            have HL' := Lib.hid hl'
            clear hx hl'
            by_cases hil : i < ll
            · obtain ⟨gb, go, rfl, gl5, gc⟩ := HC5.out i hil
              have hgm : L.getD i 0 ∈ L := by
                rw [List.getD_eq_getElem?_getD, List.getElem?_eq_getElem (by rw [HLL.out]; exact hil)]; exact List.getElem_mem _
              obtain ⟨g2, gq1, gq2⟩ := (HWm.out _).1 hgm
              have HO := Lib.hid (HWo.out i)
              obtain ⟨g, hg⟩ : ∃ g, L.getD i 0 = g := ⟨_, rfl⟩
              rw [hg] at gc g2 gq1 gq2 HO
              have cg := (HXX.out.cell (p := ⟨gb, go + i, none⟩) gl5).trans gc
              have ct := tcellZ (HB5.out.ex HXX.out) g2
              have hT5 := HLT.out g
              obtain ⟨T, hT⟩ : ∃ k, TZ ta tb tc g = k := ⟨_, rfl⟩
              rw [hT] at ct gq1 gq2 HO hT5
              obtain ⟨T1, hT1⟩ : ∃ k, T + 1 = k := ⟨_, rfl⟩
              rw [HQ.out] at gq2
              have hqs := HQ.out
              have eT : IntKind.i64.wrap ((T : Int) + 1) = (T1 : Int) := by rw [IntKind.wrap_i64]; omega
              have ew : IntKind.i64.wrap ((nw : Int) - (s : Int)) = (q : Int) := by rw [IntKind.wrap_i64]; omega
              have i0 : (0 : Int) ≤ (i : Int) := by omega
              have i1 : (i : Int) < (ll : Int) := by omega
              have n1 : ¬ (g : Int) < 0 := by omega
              have n2 : ¬ (2 : Int) < (g : Int) := by omega
              have g0 : (0 : Int) ≤ (g : Int) := by omega
              have g3 : (g : Int) < 3 := by omega
              have r1 : ¬ (nw : Int) < (T1 : Int) := by omega
              have r2 : ¬ (T1 : Int) ≤ (q : Int) := by omega
              have s1 : ¬ nw < T1 := by omega
              have s2 : ¬ T1 ≤ q := by omega
              clear hgm hg hT hT1 gq1 gq2 gc hT5 hqs
              by_cases h0 : i = 0
              · have p0 : ¬ (0 : Int) < (i : Int) := by omega
                have p1 : ¬ 0 < i := by omega
                clear h0
                go_wp2_with fail
                go_quiet (fail)
                go_wp2_with fail
                go_roundw
                case rel => exact ⟨i + 1, g, by omega, by go_num, rfl, .inl (by omega), HXX.out.trans (Ex.drawn _ _)⟩
                case measure => simp [intOf]; omega
              · have p0 : (0 : Int) < (i : Int) := by omega
                have p1 : 0 < i := by omega
                obtain ⟨k, hk⟩ : ∃ k, i - 1 = k := ⟨_, rfl⟩
                have ek : IntKind.i64.wrap ((i : Int) - 1) = (k : Int) := by rw [IntKind.wrap_i64]; omega
                have k0 : (0 : Int) ≤ (k : Int) := by omega
                have k1 : (k : Int) < (ll : Int) := by omega
                obtain ⟨gb2, go2, ee, gl6, gc2⟩ := HC5.out k (by omega)
                cases ee
                have hxm : L.getD k 0 ∈ L := by
                  rw [List.getD_eq_getElem?_getD, List.getElem?_eq_getElem (by rw [HLL.out]; omega)]; exact List.getElem_mem _
                obtain ⟨x2, -, -⟩ := (HWm.out _).1 hxm
                obtain ⟨o1, o2⟩ := HO.out p1 hil
                rw [hk] at o1 o2
                obtain ⟨x, hx⟩ : ∃ x, L.getD k 0 = x := ⟨_, rfl⟩
                rw [hx] at gc2 x2 o1 o2
                have cx := (HXX.out.cell (p := ⟨gb, go + k, none⟩) gl6).trans gc2
                have cX := tcellZ (HB5.out.ex HXX.out) x2
                obtain ⟨X, hX⟩ : ∃ k, TZ ta tb tc x = k := ⟨_, rfl⟩
                rw [hX] at cX o1 o2
                have x0 : (0 : Int) ≤ (x : Int) := by omega
                have x3 : (x : Int) < 3 := by omega
                have o1i : ¬ (T : Int) < (X : Int) := by omega
                clear hx hX gc2 hxm hk h0 HO
                by_cases hXT : X = T
                · have b1 : ((X : Int) == (T : Int)) = true := by simp [hXT]
                  have o2i : ¬ (g : Int) < (x : Int) := by omega
                  have o2n : ¬ g < x := by omega
                  clear hXT o2
                  go_wp2_with fail
                  go_quiet (fail)
                  go_wp2_with fail
                  go_roundw
                  case rel => exact ⟨i + 1, g, by omega, by go_num, rfl, .inl (by omega), HXX.out.trans (Ex.drawn _ _)⟩
                  case measure => simp [intOf]; omega
                · have b1 : ((X : Int) == (T : Int)) = false := by simp; omega
                  clear o2
                  go_wp2_with fail
                  go_quiet (fail)
                  go_wp2_with fail
                  go_roundw
                  case rel => exact ⟨i + 1, g, by omega, by go_num, rfl, .inl (by omega), HXX.out.trans (Ex.drawn _ _)⟩
                  case measure => simp [intOf]; omega
            · obtain rfl : i = ll := by omega
              have i1 : ¬ (i : Int) < (i : Int) := by omega
              have HN : Hid (0 ≤ l' ∨ ∀ g, g ≤ 2 → ¬ TZ ta tb tc g + 1 ≤ nw) := Lib.hid (by
                rcases HL'.out with h | ⟨h1, h2⟩
                · exact .inl h
                · rw [h2]
                  rcases HLa.out with h | h
                  · exact .inl h
                  · refine .inr (fun g hg ht => ?_)
                    have hm := (HWm.out g).2 ⟨hg, by have := h g hg; omega, by rw [HQ.out]; exact ht⟩
                    have := List.length_pos_of_mem hm
                    rw [HLL.out] at this
                    omega)
              clear HL' HLa HWm HWo HC5 HLL
              have HM9 := Lib.hid (HM5.out.ex HXX.out)
              have HB9 := Lib.hid (HB5.out.ex HXX.out)
              have HX9 := Lib.hid (HX5.out.trans HXX.out)
              clear HM5 HB5 HX5 HXX
              obtain ⟨w9, hw9⟩ : ∃ V, wr = V := ⟨_, rfl⟩
              rw [hw9] at HM9 HB9 HX9 ⊢
              clear hw9
              go_wp2_with fail
              go_loopw [23] (fun gv V => ∃ g : Nat, g ≤ 3 ∧ gv = .int .i64 g ∧ Ex w9 V) (fun gv _ => 3 - (intOf gv).toNat)
              case atStart => exact ⟨0, by omega, rfl, Ex.refl _⟩
              case round =>
                obtain ⟨g, hg3, rfl, hx⟩ := hrel
                have HXX := Lib.hid hx
                clear hx
                by_cases hgl : g < 3
                · have g0 : (0 : Int) ≤ (g : Int) := by omega
                  have g3 : (g : Int) < 3 := by omega
                  have ct := tcellZ (HB9.out.ex HXX.out) (show g ≤ 2 by omega)
                  have hT5 := HLT.out g
                  have hst := stZ_at ta tb tc nw (show g ≤ 2 by omega)
                  obtain ⟨T, hT⟩ : ∃ k, TZ ta tb tc g = k := ⟨_, rfl⟩
                  rw [hT] at ct hT5 hst
                  obtain ⟨T1, hT1⟩ : ∃ k, T + 1 = k := ⟨_, rfl⟩
                  rw [hT1] at hst
                  have eT : IntKind.i64.wrap ((T : Int) + 1) = (T1 : Int) := by rw [IntKind.wrap_i64]; omega
                  by_cases hTn : T1 ≤ nw
                  · rw [if_pos hTn] at hst
                    have r1 : (T1 : Int) ≤ (nw : Int) := by omega
                    have KS := Lib.hid (fun (V : World) (x : Ex w9 V) => mo_state (HM9.out.ex x) g 1 hst)
                    clear hst hT hT1 hT5
                    have ct := Lib.hid (fun (V : World) (x : Ex wr V) => ((x.cell (p := ⟨tk, g, none⟩) (Nat.lt_of_lt_of_le HB9.out.lt HXX.out.size)).trans ct))
                    go_wp2_with fail
                    refine wp_region_ex (by kernel_rfl) (by kernel_rfl) ?_
                    try simp only [List.append]
                    have ct : ∀ x : Out wr, x.w.cell? ⟨tk, g, none⟩ = some (.int .i64 (T : Nat)) := fun x => ct.out x.w x.2
                    repeat (go_big_quiet_step ((go_at_call 18; exact quiet_eq (KS.out _ (HXX.out.trans (Subtype.property _))))))
                    refine wpQuiet_nil ?_
                    rintro w4 ⟨⟨wz, hwz⟩, rfl⟩
                    have HZ := Lib.hid hwz
                    clear hwz ct
                    go_wp2_with fail
                    go_roundw
                    case rel => exact ⟨g + 1, by omega, by go_num, HXX.out.trans HZ.out⟩
                    case measure => simp [intOf]; omega
                  · rw [if_neg hTn] at hst
                    have r1 : ¬ (T1 : Int) ≤ (nw : Int) := by omega
                    have KS := Lib.hid (fun (V : World) (x : Ex w9 V) => mo_state (HM9.out.ex x) g 3 hst)
                    clear hst hT hT1 hT5
                    have ct := Lib.hid (fun (V : World) (x : Ex wr V) => ((x.cell (p := ⟨tk, g, none⟩) (Nat.lt_of_lt_of_le HB9.out.lt HXX.out.size)).trans ct))
                    go_wp2_with fail
                    refine wp_region_ex (by kernel_rfl) (by kernel_rfl) ?_
                    try simp only [List.append]
                    have ct : ∀ x : Out wr, x.w.cell? ⟨tk, g, none⟩ = some (.int .i64 (T : Nat)) := fun x => ct.out x.w x.2
                    repeat (go_big_quiet_step ((go_at_call 18; exact quiet_eq (KS.out _ (HXX.out.trans (Subtype.property _))))))
                    refine wpQuiet_nil ?_
                    rintro w4 ⟨⟨wz, hwz⟩, rfl⟩
                    have HZ := Lib.hid hwz
                    clear hwz ct
                    go_wp2_with fail
                    go_roundw
                    case rel => exact ⟨g + 1, by omega, by go_num, HXX.out.trans HZ.out⟩
                    case measure => simp [intOf]; omega
                · have g3 : ¬ (g : Int) < 3 := by omega
                  obtain ⟨n2, hn2⟩ : ∃ k, nw + s = k := ⟨_, rfl⟩
                  have en : IntKind.i64.wrap ((nw : Int) + (s : Int)) = (n2 : Int) := by rw [IntKind.wrap_i64]; omega
                  go_wp2_with fail
                  go_round
                  case rel => exact ⟨nw, n2, l', hn2, by omega, rfl, rfl, HM9.out.ex HXX.out, HB9.out.ex HXX.out, HX9.out.trans HXX.out, HN.out⟩
                  case measure => simp [intOf]; omega
        · have q1 : ¬ (nw : Int) < 700 := by omega
          have hl : 0 ≤ last := by
            rcases HR.out.last with h | h
            · exact h
            · have h1 := h 0 (by omega)
              have h2 := HLT.out 0
              omega
          have HX := Lib.hid HR.out.ex
          clear HR
          go_wp2_with fail
          refine (told_any _).mono ?_
          rintro e w9 ⟨rfl, x9⟩
          have HE := Lib.hid (HX.out.trans x9)
          clear x9
          go_wp2_with fail
          go_ret
          exact ⟨rfl, HE.out⟩

theorem walk_ModelSleeps (a0 a1 a2 a3 : Int) (w0 : (Lit.int .i64 a0).wf = true) (w1 : (Lit.int .i64 a1).wf = true) (w2 : (Lit.int .i64 a2).wf = true) (w3 : (Lit.int .i64 a3).wf = true) (w : World) :
    Calls Try.prog 11 #[.int .i64 a0, .int .i64 a1, .int .i64 a2, .int .i64 a3] w fun e w' => e = .returned (.bool true) ∧ Below w.heap.size w w' := by
  obtain ⟨h0, h1⟩ := utmod a0 500 (by omega)
  obtain ⟨h2, h3⟩ := utmod a1 500 (by omega)
  obtain ⟨h4, h5⟩ := utmod a2 500 (by omega)
  obtain ⟨h6, h7⟩ := utmod a3 100 (by omega)
  exact sleeps_walk a0 a1 a2 a3 ((IntKind.u64.wrap a0).tmod 500).toNat ((IntKind.u64.wrap a1).tmod 500).toNat ((IntKind.u64.wrap a2).tmod 500).toNat ((IntKind.u64.wrap a3).tmod 100).toNat w (by omega) (by omega) (by omega) (by omega) (by omega) (by omega) (by omega) (by omega)

end Go.Proofs.Ytmlobpapjfkbmaa
