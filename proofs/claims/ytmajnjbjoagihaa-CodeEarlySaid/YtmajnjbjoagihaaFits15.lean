/- Package code: fits. -/
import Derived.Test.YtmajnjbjoagihaaApp
import Derived.Outline
import Derived.Deep.Cut
import Derived.Maps.Own
import Derived.Maps.OwnOps
import Derived.Maps.Views
namespace Go.Proofs.Ytmajnjbjoagihaa
open Go.RowKit Go.Maps
set_option linter.unusedVariables false

theorem wpList_insert_own {H : Type} {P : Program} (w : World) {ops : Array Oper} {rest : List Oper} {o : Oper} {a : Act} {Q : Exit → Act → World → Prop}
    (hg : o.guard = none) (m x v : Operand) (t : TypeId) (hop : o.op = Op.insert t m x v)
    (k e : TypeId) (K : Keyed P k) (ht : P.underlying t = some (.map k e)) (R : Value → Option (DataW H × List MemPlace)) (b n : Nat) (D : DataW H)
    (hm : a.eval m = .map (some b)) (hown : w.ownsMap P k R b n D) (hn : n < maxLen) (key val : Value) (kl : Lit) (hx : a.eval x = key) (hv : a.eval v = val) (hkey : keyOf P k key = some kl)
    (d : DataW H) (ps : List MemPlace) (hval : R val = some (d, ps))
    (hK : ∀ w', w'.ownsMap P k R b (n + 1) (D.put kl d) → w.grownBy w' (some b) → wpList P ops Q rest (a.put o.dst undef) w') :
    wpList P ops Q (o :: rest) a w := by
  refine wpList_plain hg fun K' hK' => ?_
  obtain ⟨w', hrun, r1, r2⟩ := hown.update K ht hn hkey hval
  unfold Oper.wp
  simp [execOp, hop, hm, hx, hv, hrun, Result.andThen]
  exact hK' _ _ (hK w' r1 r2)

/-- What may stand in a part: below this. -/
def lim (g f s : Int) : Nat → Int
  | 0 => 1
  | 1 => 256
  | 2 => 16
  | 3 => g
  | 4 => f
  | 5 => s
  | _ => 32

def kI (n : Int) : Lit := .int .i64 n
def dI (n : Int) : DataW Unit := .lit (.int .i64 n)
def limD (g f s : Int) : DataW Unit := ((((((((.map [] : DataW Unit).put (kI 0) (dI 1)).put (kI 1) (dI 256)).put (kI 2) (dI 16)).put (kI 3) (dI g)).put (kI 4) (dI f)).put (kI 5) (dI s)).put (kI 6) (dI 32))

theorem isk (n : Int) : WideAt.IsKeyLit (kI n) := by
  unfold kI; simp [WideAt.IsKeyLit]
theorem kI_ne {a b : Int} (h : a ≠ b) : kI a ≠ kI b := by
  unfold kI; intro e; cases e; exact h rfl

theorem wfI {n : Int} (h : 0 ≤ n) (k : n ≤ 100000) : (Lit.int .i64 n).wf = true := by simp [Lit.wf, IntKind.min, IntKind.max, IntKind.signed, IntKind.bits]; omega
theorem law3 : Keyed Try.prog 3 := int_keyed Try.underlying3
theorem keyI {n : Int} (h : 0 ≤ n) (k : n ≤ 100000) : keyOf Try.prog 3 (.int .i64 n) = some (kI n) := keyOf_int_mk Try.underlying3 (wfI h k)
theorem valI {n : Int} (h : 0 ≤ n) (k : n ≤ 100000) : plainElem (H := Unit) Try.prog 3 (.int .i64 n) = some (dI n, []) := plainElem_int Try.underlying3 (wfI h k)

theorem limD_at (g f s : Int) (c : Nat) (hc : c < 7) : (limD g f s).atKey (kI (c : Int)) (.lit (.int .i64 0)) = .lit (.int .i64 (lim g f s c)) := by
  unfold limD
  have m0 : IsMap (.map [] : DataW Unit) := isMap_empty
  match c, hc with
  | 0, _ => rw [atKey_put_other (kI_ne (by decide)), atKey_put_other (kI_ne (by decide)), atKey_put_other (kI_ne (by decide)), atKey_put_other (kI_ne (by decide)), atKey_put_other (kI_ne (by decide)), atKey_put_other (kI_ne (by decide))]; exact atKey_put_same m0 (isk _) _ _
  | 1, _ => rw [atKey_put_other (kI_ne (by decide)), atKey_put_other (kI_ne (by decide)), atKey_put_other (kI_ne (by decide)), atKey_put_other (kI_ne (by decide)), atKey_put_other (kI_ne (by decide))]; exact atKey_put_same (m0.put _ _) (isk _) _ _
  | 2, _ => rw [atKey_put_other (kI_ne (by decide)), atKey_put_other (kI_ne (by decide)), atKey_put_other (kI_ne (by decide)), atKey_put_other (kI_ne (by decide))]; exact atKey_put_same ((m0.put _ _).put _ _) (isk _) _ _
  | 3, _ => rw [atKey_put_other (kI_ne (by decide)), atKey_put_other (kI_ne (by decide)), atKey_put_other (kI_ne (by decide))]; exact atKey_put_same (((m0.put _ _).put _ _).put _ _) (isk _) _ _
  | 4, _ => rw [atKey_put_other (kI_ne (by decide)), atKey_put_other (kI_ne (by decide))]; exact atKey_put_same ((((m0.put _ _).put _ _).put _ _).put _ _) (isk _) _ _
  | 5, _ => rw [atKey_put_other (kI_ne (by decide))]; exact atKey_put_same (((((m0.put _ _).put _ _).put _ _).put _ _).put _ _) (isk _) _ _
  | 6, _ => exact atKey_put_same ((((((m0.put _ _).put _ _).put _ _).put _ _).put _ _).put _ _) (isk _) _ _

theorem grown_ex {w w1 w2 : World} {b : Nat} (h : Ex w w1) (hb : w.heap.size ≤ b) (g : w1.grownBy w2 (some b)) : Ex w w2 :=
  Below.trans h ((Chg.grown (F := fun i => i = b) g (fun i hi => by cases hi; rfl)).below h.size (fun i hi => by subst hi; exact hb))

set_option maxRecDepth 20000 in
set_option maxHeartbeats 3200000 in
theorem fits_any (w : World) (g f s v : Int) (c : Nat) (hc : c < 7) (hg : 0 ≤ g ∧ g ≤ 100000) (hf : 0 ≤ f ∧ f ≤ 100000) (hs : 0 ≤ s ∧ s ≤ 100000) :
    Calls Try.prog 27 #[.agg #[.int .i64 g, .int .i64 f, .int .i64 s], .int .i64 (c : Int), .int .i64 v] w fun e w' => e = .returned (.bool (decide (0 ≤ v ∧ v < lim g f s c))) ∧ Ex w w' := by
  have hmm := @run_makeMap Try.prog
  obtain ⟨t, ht⟩ : ∃ t, decide (0 ≤ v ∧ v < lim g f s c) = t := ⟨_, rfl⟩
  rw [ht]
  have HT := Lib.hid ht
  clear ht
  have VG := Lib.hid (valI hg.1 hg.2)
  have VF := Lib.hid (valI hf.1 hf.2)
  have VS := Lib.hid (valI hs.1 hs.2)
  go_enter Try.func27, Try.ntmps27
  have B0 : Hid (Box ((w.alloc (.cells #[.int .i64 g, .int .i64 f, .int .i64 s] 55)).alloc (.map #[] 0)) w.heap.size #[.int .i64 g, .int .i64 f, .int .i64 s] 55) := Lib.hid ((Box.fresh w _ _).ex (Ex.made _ _))
  have X0 : Hid (Ex w ((w.alloc (.cells #[.int .i64 g, .int .i64 f, .int .i64 s] 55)).alloc (.map #[] 0))) := Lib.hid ((Ex.made _ _).trans (Ex.made _ _))
  have M0 : Hid (((w.alloc (.cells #[.int .i64 g, .int .i64 f, .int .i64 s] 55)).alloc (.map #[] 0)).ownsMap Try.prog 3 (plainElem (H := Unit) Try.prog 3) (w.heap.size + 1) 0 (.map [])) := Lib.hid (by
    have := World.ownsMap_made (H := Unit) (w.alloc (.cells #[.int .i64 g, .int .i64 f, .int .i64 s] 55)) Try.prog 3 (plainElem Try.prog 3)
    simpa using this)
  have kB : w.heap.size ≤ w.heap.size + 1 := by omega
  go_wp2_with (refine wpList_insert_own _ rfl _ _ _ 67 rfl 3 3 law3 Try.underlying67 _ (w.heap.size + 1) 0 _ rfl M0.out (by unfold maxLen; omega) _ _ _ rfl rfl (keyI (n := 0) (by decide) (by decide)) _ _ (valI (n := 1) (by decide) (by decide)) ?_)
  intro w1 hM hG
  have B1 := Lib.hid (B0.out.chg (Chg.grown (F := fun i => i = w.heap.size + 1) hG (fun i hi => by cases hi; rfl)) (by omega))
  have X1 := Lib.hid (grown_ex X0.out kB hG)
  have M1 := Lib.hid hM
  have cg := B1.out.cell 0
  have cf := B1.out.cell 1
  have cs := B1.out.cell 2
  clear hM hG B0 X0 M0
  go_wp2_with (refine wpList_insert_own _ rfl _ _ _ 67 rfl 3 3 law3 Try.underlying67 _ (w.heap.size + 1) 1 _ rfl M1.out (by unfold maxLen; omega) _ _ _ rfl rfl (keyI (n := 1) (by decide) (by decide)) _ _ (valI (n := 256) (by decide) (by decide)) ?_)
  clear cg cf cs
  intro w2 hM hG
  have B2 := Lib.hid (B1.out.chg (Chg.grown (F := fun i => i = w.heap.size + 1) hG (fun i hi => by cases hi; rfl)) (by omega))
  have X2 := Lib.hid (grown_ex X1.out kB hG)
  have M2 := Lib.hid hM
  have cg := B2.out.cell 0
  have cf := B2.out.cell 1
  have cs := B2.out.cell 2
  clear hM hG B1 X1 M1
  go_wp2_with (refine wpList_insert_own _ rfl _ _ _ 67 rfl 3 3 law3 Try.underlying67 _ (w.heap.size + 1) 2 _ rfl M2.out (by unfold maxLen; omega) _ _ _ rfl rfl (keyI (n := 2) (by decide) (by decide)) _ _ (valI (n := 16) (by decide) (by decide)) ?_)
  clear cg cf cs
  intro w3 hM hG
  have B3 := Lib.hid (B2.out.chg (Chg.grown (F := fun i => i = w.heap.size + 1) hG (fun i hi => by cases hi; rfl)) (by omega))
  have X3 := Lib.hid (grown_ex X2.out kB hG)
  have M3 := Lib.hid hM
  have cg := B3.out.cell 0
  have cf := B3.out.cell 1
  have cs := B3.out.cell 2
  clear hM hG B2 X2 M2
  go_wp2_with (refine wpList_insert_own _ rfl _ _ _ 67 rfl 3 3 law3 Try.underlying67 _ (w.heap.size + 1) 3 _ rfl M3.out (by unfold maxLen; omega) _ _ _ rfl rfl (keyI (n := 3) (by decide) (by decide)) _ _ VG.out ?_)
  clear cg cf cs
  intro w4 hM hG
  have B4 := Lib.hid (B3.out.chg (Chg.grown (F := fun i => i = w.heap.size + 1) hG (fun i hi => by cases hi; rfl)) (by omega))
  have X4 := Lib.hid (grown_ex X3.out kB hG)
  have M4 := Lib.hid hM
  have cg := B4.out.cell 0
  have cf := B4.out.cell 1
  have cs := B4.out.cell 2
  clear hM hG B3 X3 M3
  go_wp2_with (refine wpList_insert_own _ rfl _ _ _ 67 rfl 3 3 law3 Try.underlying67 _ (w.heap.size + 1) 4 _ rfl M4.out (by unfold maxLen; omega) _ _ _ rfl rfl (keyI (n := 4) (by decide) (by decide)) _ _ VF.out ?_)
  clear cg cf cs
  intro w5 hM hG
  have B5 := Lib.hid (B4.out.chg (Chg.grown (F := fun i => i = w.heap.size + 1) hG (fun i hi => by cases hi; rfl)) (by omega))
  have X5 := Lib.hid (grown_ex X4.out kB hG)
  have M5 := Lib.hid hM
  have cg := B5.out.cell 0
  have cf := B5.out.cell 1
  have cs := B5.out.cell 2
  clear hM hG B4 X4 M4
  go_wp2_with (refine wpList_insert_own _ rfl _ _ _ 67 rfl 3 3 law3 Try.underlying67 _ (w.heap.size + 1) 5 _ rfl M5.out (by unfold maxLen; omega) _ _ _ rfl rfl (keyI (n := 5) (by decide) (by decide)) _ _ VS.out ?_)
  clear cg cf cs
  intro w6 hM hG
  have B6 := Lib.hid (B5.out.chg (Chg.grown (F := fun i => i = w.heap.size + 1) hG (fun i hi => by cases hi; rfl)) (by omega))
  have X6 := Lib.hid (grown_ex X5.out kB hG)
  have M6 := Lib.hid hM
  have cg := B6.out.cell 0
  have cf := B6.out.cell 1
  have cs := B6.out.cell 2
  clear hM hG B5 X5 M5
  go_wp2_with (refine wpList_insert_own _ rfl _ _ _ 67 rfl 3 3 law3 Try.underlying67 _ (w.heap.size + 1) 6 _ rfl M6.out (by unfold maxLen; omega) _ _ _ rfl rfl (keyI (n := 6) (by decide) (by decide)) _ _ (valI (n := 32) (by decide) (by decide)) ?_)
  clear cg cf cs
  intro w7 hM hG
  have B7 := Lib.hid (B6.out.chg (Chg.grown (F := fun i => i = w.heap.size + 1) hG (fun i hi => by cases hi; rfl)) (by omega))
  have X7 := Lib.hid (grown_ex X6.out kB hG)
  have M7 := Lib.hid hM
  have cg := B7.out.cell 0
  have cf := B7.out.cell 1
  have cs := B7.out.cell 2
  clear hM hG B6 X6 M6
  obtain ⟨r, hr, hat, -⟩ := M7.out.lookup_int (key := .int .i64 (c : Int)) law3 Try.underlying67 Try.underlying3 (Try.zeroValue3 _) (keyI (n := (c : Int)) (by omega) (by omega))
  have hat' := limD_at g f s c hc
  have hrl : r = lim g f s c := by
    have e := hat.symm.trans hat'
    simpa using e
  rw [← hrl] at HT
  clear hat hat' hrl
  by_cases h1 : 0 ≤ v
  · by_cases h2 : v < r
    · have ht : t = true := by rw [← HT.out]; simp [h1, h2]
      subst ht
      go_wp2_with fail
      go_ret
      exact ⟨rfl, X7.out⟩
    · have ht : t = false := by rw [← HT.out]; simp [h2]
      subst ht
      go_wp2_with fail
      go_ret
      exact ⟨rfl, X7.out⟩
  · have ht : t = false := by rw [← HT.out]; simp [h1]
    subst ht
    go_wp2_with fail
    go_ret
    exact ⟨rfl, X7.out⟩

end Go.Proofs.Ytmajnjbjoagihaa
