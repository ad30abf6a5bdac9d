/- Package code: Decode's deferred closure. -/
import Derived.Test.YtmajnjbjoagihaaInst15
import Derived.Tactics
import Derived.Tactics2
import Derived.Defers
import Derived.Recover
import Derived.Laws.Pointers
namespace Go.Proofs.Ytmajnjbjoagihaa
open Go.RowKit
set_option linter.unusedVariables false
set_option linter.unusedSimpArgs false

theorem ta_nil (w : World) : (Instr.typeAssert .nilIface 20 48 true).run Try.prog w = .ok (.tuple #[.agg #[.int .i64 0], .bool false]) w := by kernel_rfl
theorem ta_bad (x : Value) (w : World) : (Instr.typeAssert (.iface 48 x) 20 48 true).run Try.prog w = .ok (.tuple #[x, .bool true]) w := by kernel_rfl

theorem catch_idle (p e a : Addr) (w : World) :
    CallsD Try.prog 18 #[.pointer (some p), .pointer (some e), .pointer (some a)] .returning w fun e' u' w' => e' = .returned (.tuple #[]) ∧ u' = .returning ∧ Ex w w' := by
  refine callsD_of_wpS Try.func18 rfl fun c₀ cs hu => ?_
  have t1 := ta_nil
  apply wpS_seq
  apply wpS_region
  simp [wpOpsS, go_sem, recoverD, hu, Try.ntmps18, Exit.thenS, t1]
  refine wpS_of_wp ?_
  rw [show (#[Value.pointer (some p), .pointer (some e), .pointer (some a)] ++ (((((((Array.replicate 11 undef).setIfInBounds 3 Value.nilIface).setIfInBounds 4 (Value.tuple #[Value.agg #[Value.int IntKind.i64 0], Value.bool false])).setIfInBounds 2 (Value.tuple #[Value.agg #[Value.int IntKind.i64 0], Value.bool false])).setIfInBounds 5 (Value.agg #[Value.int IntKind.i64 0])).setIfInBounds 6 (Value.bool false)).setIfInBounds 0 (Value.pointer (some { block := w.heap.size, off := 0 }))).setIfInBounds 1 (Value.bool false)) = #[.pointer (some p), .pointer (some e), .pointer (some a), .pointer (some { block := w.heap.size, off := 0 }), .bool false, Value.tuple #[Value.agg #[Value.int IntKind.i64 0], Value.bool false], .nilIface, Value.tuple #[Value.agg #[Value.int IntKind.i64 0], Value.bool false], Value.agg #[Value.int IntKind.i64 0], .bool false, undef, undef, undef, undef] from rfl]
  go_wp2
  refine ⟨rfl, .returning, ?_, .tuple #[], by simp [results, Try.results18], rfl, rfl, Ex.made _ _⟩
  cases c₀
  simp_all

/-- The three results are laid. -/
def Caught (w : World) (pb eb ab : Nat) (n : Nat) (older : List PanicEntry) (e' : Ending) (u' : FrameMode) (w' : World) : Prop :=
  e' = .returned (.tuple #[]) ∧ u' = .panicking ({ v := badV n, recovered := true } :: older) ∧
    Box w' pb #[.int .i64 0, .slice none 0 0] 24 ∧ Box w' eb #[.int .i64 6] 3 ∧ Box w' ab #[.int .i64 (n : Int)] 3 ∧ Chg (fun i => i = pb ∨ i = eb ∨ i = ab) w w'

set_option maxRecDepth 20000 in
set_option maxHeartbeats 3200000 in
theorem catch_bad {w : World} {pb eb ab n : Nat} {x0 x1 x2 x3 : Value} (older : List PanicEntry) (h0 : Box w pb #[x0, x1] 24) (h1 : Box w eb #[x2] 3) (h2 : Box w ab #[x3] 3) (d1 : pb ≠ eb) (d2 : pb ≠ ab) (d3 : eb ≠ ab) :
    CallsD Try.prog 18 #[.pointer (some ⟨pb, 0, none⟩), .pointer (some ⟨eb, 0, none⟩), .pointer (some ⟨ab, 0, none⟩)] (.panicking ({ v := badV n, recovered := false } :: older)) w (Caught w pb eb ab n older) := by
  refine callsD_of_wpS Try.func18 rfl fun c₀ cs hu => ?_
  have t1 := ta_bad (.agg #[.int .i64 (n : Int)])
  unfold badV at hu
  apply wpS_seq
  apply wpS_region
  have hrep : Array.replicate 11 undef = #[undef, undef, undef, undef, undef, undef, undef, undef, undef, undef, undef] := rfl
  simp [wpOpsS, go_sem, recoverD, hu, Try.ntmps18, Exit.thenS, t1, hrep]
  refine wpS_of_wp ?_
  have H0 := Lib.hid h0
  have H1 := Lib.hid h1
  have H2 := Lib.hid h2
  have l0 := h0.lt
  have l1 := h1.lt
  have l2 := h2.lt
  have K0 := Lib.hid (h0.ex (Ex.made w (.cells #[.int .i64 (n : Int)] 48)))
  have K1 := Lib.hid (h1.ex (Ex.made w (.cells #[.int .i64 (n : Int)] 48)))
  have K2 := Lib.hid (h2.ex (Ex.made w (.cells #[.int .i64 (n : Int)] 48)))
  have K3 := Lib.hid (Box.fresh w #[.int .i64 (n : Int)] 48)
  have KE := Lib.hid (Ex.made w (.cells #[.int .i64 (n : Int)] 48))
  obtain ⟨hb, hhb⟩ : ∃ hb, w.heap.size = hb := ⟨_, rfl⟩
  rw [hhb] at K3 l0 l1 l2 ⊢
  have HHB := Lib.hid hhb
  obtain ⟨W, hW⟩ : ∃ W, W = w.alloc (.cells #[.int .i64 (n : Int)] 48) := ⟨_, rfl⟩
  rw [← hW] at K0 K1 K2 K3 KE ⊢
  clear hW h0 h1 h2 t1 hhb
  have c0 : W.cell? ⟨pb, 0, none⟩ = some x0 := K0.out.cell 0
  have c1 : W.cell? ⟨pb, 1, none⟩ = some x1 := K0.out.cell 1
  have c2 : W.cell? ⟨eb, 0, none⟩ = some x2 := K1.out.cell 0
  have c3 : W.cell? ⟨ab, 0, none⟩ = some x3 := K2.out.cell 0
  have c4 : W.cell? ⟨hb, 0, none⟩ = some (.int .i64 (n : Int)) := K3.out.cell 0
  have f0 := K0.out.soft 0
  have f1 := K0.out.soft 1
  have f2 := K1.out.soft 0
  have f3 := K2.out.soft 0
  have n1 : ¬ pb = eb := d1
  have n2 : ¬ pb = ab := d2
  have n3 : ¬ eb = ab := d3
  have n4 : ¬ eb = pb := fun e => d1 e.symm
  have n5 : ¬ ab = pb := fun e => d2 e.symm
  have n6 : ¬ ab = eb := fun e => d3 e.symm
  have n7 : ¬ pb = hb := by omega
  have n8 : ¬ eb = hb := by omega
  have n9 : ¬ ab = hb := by omega
  go_upto_region 2 with fail
  refine wp_region_held_drew (S := fun w' => w'.cell? ⟨hb, 0, none⟩ = some (.int .i64 (n : Int))) (by kernel_rfl) ?_ (fun hHeld => ?_)
  · go_keep
  refine wpAnyH_take (i := 0) (v := ?_) rfl (by kernel_rfl) (by kernel_rfl) (by kernel_rfl) (fun _ _ _ h => h) (Or.inl ⟨by rfl, ?_⟩) (by assumption) ?_
  rotate_left
  · intro w hSw; (try dsimp only at hSw); go_simp; try with_reducible rfl
  try simp only [Act.put, List.setIfInBounds_toArray, List.set_cons_zero, List.set_cons_succ]
  refine wpAnyH_take (i := 1) (v := ?_) rfl (by kernel_rfl) (by kernel_rfl) (by kernel_rfl) (fun _ _ _ h => h) (Or.inl ⟨by rfl, ?_⟩) (by assumption) ?_
  rotate_left
  · intro w hSw; (try dsimp only at hSw); go_simp; try with_reducible rfl
  try simp only [Act.put, List.setIfInBounds_toArray, List.set_cons_zero, List.set_cons_succ]
  refine wpAnyH_take (i := 2) (v := ?_) rfl (by kernel_rfl) (by kernel_rfl) (by kernel_rfl) (fun _ _ _ h => h) (Or.inl ⟨by rfl, ?_⟩) (by assumption) ?_
  rotate_left
  · intro w hSw; (try dsimp only at hSw); go_simp; try with_reducible rfl
  try simp only [Act.put, List.setIfInBounds_toArray, List.set_cons_zero, List.set_cons_succ]
  refine wpAnyH_ready (rs := [3]) (by kernel_rfl) (by simp) ?_
  refine AllReadyH.cons rfl (fun K hK => ?_) AllReadyH.nil
  go_simp
  refine hK.out _ _ ?_ (fun hHeld => ?_)
  · go_keep
  clear hK K
  try simp only [Act.put, List.setIfInBounds_toArray, List.set_cons_zero, List.set_cons_succ]
  refine wpAnyH_ready (rs := [4]) (by kernel_rfl) (by simp) ?_
  refine AllReadyH.cons rfl (fun K hK => ?_) AllReadyH.nil
  go_simp
  refine hK.out _ _ ?_ (fun hHeld => ?_)
  · go_keep
  clear hK K
  try simp only [Act.put, List.setIfInBounds_toArray, List.set_cons_zero, List.set_cons_succ]
  refine wpAnyH_ready (rs := [5]) (by kernel_rfl) (by simp) ?_
  refine AllReadyH.cons rfl (fun K hK => ?_) AllReadyH.nil
  go_simp
  refine hK.out _ _ ?_ (fun hHeld => ?_)
  · go_keep
  clear hK K
  try simp only [Act.put, List.setIfInBounds_toArray, List.set_cons_zero, List.set_cons_succ]
  refine wpAnyH_done (by kernel_rfl) ?_ _
  clear c0 c1 c2 c3 c4 f0 f1 f2 f3 hHeld
  go_wp2
  refine ⟨rfl, .panicking ({ v := badV n, recovered := true } :: older), by cases c₀; simp_all [badV], .tuple #[], by simp [results, Try.results18], rfl, rfl, ?_, ?_, ?_, ?_⟩
  · exact ((((K0.out.put 0 _).put 1 _).put_other d1 0 _).put_other d2 0 _).ex (ex_drew _)
  · exact ((((K1.out.put_other d1.symm 0 _).put_other d1.symm 1 _).put 0 _).put_other d3 0 _).ex (ex_drew _)
  · exact ((((K2.out.put_other d2.symm 0 _).put_other d2.symm 1 _).put_other d3.symm 0 _).put 0 _).ex (ex_drew _)
  · have c := (((Chg.cell (F := fun i => i = pb ∨ i = eb ∨ i = ab) W ⟨pb, 0, none⟩ (.int .i64 0) (.inl rfl)).trans (Chg.cell (F := fun i => i = pb ∨ i = eb ∨ i = ab) _ ⟨pb, 1, none⟩ (.slice none 0 0) (.inl rfl)) (fun _ _ h => h)).trans (Chg.cell (F := fun i => i = pb ∨ i = eb ∨ i = ab) _ ⟨eb, 0, none⟩ (.int .i64 6) (.inr (.inl rfl))) (fun _ _ h => h)).trans (Chg.cell (F := fun i => i = pb ∨ i = eb ∨ i = ab) _ ⟨ab, 0, none⟩ (.int .i64 (n : Int)) (.inr (.inr rfl))) (fun _ _ h => h)
    exact ((KE.out.chg _).trans c (fun _ _ h => h)).ex (ex_drew _)

end Go.Proofs.Ytmajnjbjoagihaa
