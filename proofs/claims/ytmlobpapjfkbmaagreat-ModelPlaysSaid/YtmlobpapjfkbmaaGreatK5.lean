/- Part 5 of what is proved of the program of layer 16: Fits15, Parts15, Wrong15, MayL16, MayB16, May16. -/
import Derived.Test.YtmlobpapjfkbmaaGreatK1
import Derived.Outline
import Derived.Deep.Cut
import Derived.Maps.Own
import Derived.Maps.OwnOps
import Derived.Maps.Views
import Derived.Laws.Tables
import Derived.Laws.CopyOwn
import Derived.Deep.RegionHeld3
import Derived.Deep.DrawnRows
/- Package code: fits. -/
namespace Go.Proofs.YtmlobpapjfkbmaaGreat.C15
open Go.RowKit Go.Maps
set_option linter.unusedVariables false
set_option maxRecDepth 20000

theorem wpList_insert_own {H : Type} {P : Program} (w : World) {ops : Array Oper} {rest : List Oper} {o : Oper} {a : Act} {Q : Exit → Act → World → Prop}
    (hg : o.guard = none) (m x v : Operand) (t : TypeId) (hop : o.op = Op.insert t m x v)
    (k e : TypeId) (K : Keyed P k) (ht : P.underlying t = some (.map k e)) (R : Value → Option (DataW H × List MemPlace)) (b n : Nat) (D : DataW H)
    (hm : a.eval m = .map (some b)) (hown : w.ownsMap P k R b n D) (hn : n < maxLen) (key val : Value) (kl : Lit) (hx : a.eval x = key) (hv : a.eval v = val) (hkey : keyOf P k key = some kl)
    (d : DataW H) (ps : List MemPlace) (hval : R val = some (d, ps))
    (hK : ∀ w', w'.ownsMap P k R b (n + 1) (D.put kl d) → w.grownBy w' (some b) → wpList P ops Q rest (a.put o.dst undef) w') :
    wpList P ops Q (o :: rest) a w := by
  refine wpList_plain hg fun K' hK' => ?_
  obtain ⟨w', hrun, r1, r2⟩ := hown.update K ht hn hkey hval
  unfold Oper.wp
  simp [execOp, hop, hm, hx, hv, hrun, Result.andThen]
  exact hK' _ _ (hK w' r1 r2)

/-- What may stand in a part: below this. -/
def lim (g f s : Int) : Nat → Int
  | 0 => 1
  | 1 => 256
  | 2 => 16
  | 3 => g
  | 4 => f
  | 5 => s
  | _ => 32

def kI (n : Int) : Lit := .int .i64 n
def dI (n : Int) : DataW Unit := .lit (.int .i64 n)
def limD (g f s : Int) : DataW Unit := ((((((((.map [] : DataW Unit).put (kI 0) (dI 1)).put (kI 1) (dI 256)).put (kI 2) (dI 16)).put (kI 3) (dI g)).put (kI 4) (dI f)).put (kI 5) (dI s)).put (kI 6) (dI 32))

theorem isk (n : Int) : WideAt.IsKeyLit (kI n) := by
  unfold kI; simp [WideAt.IsKeyLit]
theorem kI_ne {a b : Int} (h : a ≠ b) : kI a ≠ kI b := by
  unfold kI; intro e; cases e; exact h rfl

theorem wfI {n : Int} (h : 0 ≤ n) (k : n ≤ 100000) : (Lit.int .i64 n).wf = true := by simp [Lit.wf, IntKind.min, IntKind.max, IntKind.signed, IntKind.bits]; omega
theorem law3 : Keyed Tryz.prog 3 := int_keyed Tryz.underlying3
theorem keyI {n : Int} (h : 0 ≤ n) (k : n ≤ 100000) : keyOf Tryz.prog 3 (.int .i64 n) = some (kI n) := keyOf_int_mk Tryz.underlying3 (wfI h k)
theorem valI {n : Int} (h : 0 ≤ n) (k : n ≤ 100000) : plainElem (H := Unit) Tryz.prog 3 (.int .i64 n) = some (dI n, []) := plainElem_int Tryz.underlying3 (wfI h k)

theorem limD_at (g f s : Int) (c : Nat) (hc : c < 7) : (limD g f s).atKey (kI (c : Int)) (.lit (.int .i64 0)) = .lit (.int .i64 (lim g f s c)) := by
  unfold limD
  have m0 : IsMap (.map [] : DataW Unit) := isMap_empty
  match c, hc with
  | 0, _ => rw [atKey_put_other (kI_ne (by decide)), atKey_put_other (kI_ne (by decide)), atKey_put_other (kI_ne (by decide)), atKey_put_other (kI_ne (by decide)), atKey_put_other (kI_ne (by decide)), atKey_put_other (kI_ne (by decide))]; exact atKey_put_same m0 (isk _) _ _
  | 1, _ => rw [atKey_put_other (kI_ne (by decide)), atKey_put_other (kI_ne (by decide)), atKey_put_other (kI_ne (by decide)), atKey_put_other (kI_ne (by decide)), atKey_put_other (kI_ne (by decide))]; exact atKey_put_same (m0.put _ _) (isk _) _ _
  | 2, _ => rw [atKey_put_other (kI_ne (by decide)), atKey_put_other (kI_ne (by decide)), atKey_put_other (kI_ne (by decide)), atKey_put_other (kI_ne (by decide))]; exact atKey_put_same ((m0.put _ _).put _ _) (isk _) _ _
  | 3, _ => rw [atKey_put_other (kI_ne (by decide)), atKey_put_other (kI_ne (by decide)), atKey_put_other (kI_ne (by decide))]; exact atKey_put_same (((m0.put _ _).put _ _).put _ _) (isk _) _ _
  | 4, _ => rw [atKey_put_other (kI_ne (by decide)), atKey_put_other (kI_ne (by decide))]; exact atKey_put_same ((((m0.put _ _).put _ _).put _ _).put _ _) (isk _) _ _
  | 5, _ => rw [atKey_put_other (kI_ne (by decide))]; exact atKey_put_same (((((m0.put _ _).put _ _).put _ _).put _ _).put _ _) (isk _) _ _
  | 6, _ => exact atKey_put_same ((((((m0.put _ _).put _ _).put _ _).put _ _).put _ _).put _ _) (isk _) _ _

theorem grown_ex {w w1 w2 : World} {b : Nat} (h : Ex w w1) (hb : w.heap.size ≤ b) (g : w1.grownBy w2 (some b)) : Ex w w2 :=
  Below.trans h ((Chg.grown (F := fun i => i = b) g (fun i hi => by cases hi; rfl)).below h.size (fun i hi => by subst hi; exact hb))

set_option maxRecDepth 20000 in
set_option maxHeartbeats 3200000 in
theorem fits_any (w : World) (g f s v : Int) (c : Nat) (hc : c < 7) (hg : 0 ≤ g ∧ g ≤ 100000) (hf : 0 ≤ f ∧ f ≤ 100000) (hs : 0 ≤ s ∧ s ≤ 100000) :
    Calls Tryz.prog 80 #[.agg #[.int .i64 g, .int .i64 f, .int .i64 s], .int .i64 (c : Int), .int .i64 v] w fun e w' => e = .returned (.bool (decide (0 ≤ v ∧ v < lim g f s c))) ∧ Ex w w' := by
  have hmm := @run_makeMap Tryz.prog
  obtain ⟨t, ht⟩ : ∃ t, decide (0 ≤ v ∧ v < lim g f s c) = t := ⟨_, rfl⟩
  rw [ht]
  have HT := Lib.hid ht
  clear ht
  have VG := Lib.hid (valI hg.1 hg.2)
  have VF := Lib.hid (valI hf.1 hf.2)
  have VS := Lib.hid (valI hs.1 hs.2)
  go_enter Tryz.func80, Tryz.ntmps80
  have B0 : Hid (Box ((w.alloc (.cells #[.int .i64 g, .int .i64 f, .int .i64 s] 97)).alloc (.map #[] 0)) w.heap.size #[.int .i64 g, .int .i64 f, .int .i64 s] 97) := Lib.hid ((Box.fresh w _ _).ex (Ex.made _ _))
  have X0 : Hid (Ex w ((w.alloc (.cells #[.int .i64 g, .int .i64 f, .int .i64 s] 97)).alloc (.map #[] 0))) := Lib.hid ((Ex.made _ _).trans (Ex.made _ _))
  have M0 : Hid (((w.alloc (.cells #[.int .i64 g, .int .i64 f, .int .i64 s] 97)).alloc (.map #[] 0)).ownsMap Tryz.prog 3 (plainElem (H := Unit) Tryz.prog 3) (w.heap.size + 1) 0 (.map [])) := Lib.hid (by
    have := World.ownsMap_made (H := Unit) (w.alloc (.cells #[.int .i64 g, .int .i64 f, .int .i64 s] 97)) Tryz.prog 3 (plainElem Tryz.prog 3)
    simpa using this)
  have kB : w.heap.size ≤ w.heap.size + 1 := by omega
  go_wp2_with (refine wpList_insert_own _ rfl _ _ _ 136 rfl 3 3 law3 Tryz.underlying136 _ (w.heap.size + 1) 0 _ rfl M0.out (by unfold maxLen; omega) _ _ _ rfl rfl (keyI (n := 0) (by decide) (by decide)) _ _ (valI (n := 1) (by decide) (by decide)) ?_)
  intro w1 hM hG
  have B1 := Lib.hid (B0.out.chg (Chg.grown (F := fun i => i = w.heap.size + 1) hG (fun i hi => by cases hi; rfl)) (by omega))
  have X1 := Lib.hid (grown_ex X0.out kB hG)
  have M1 := Lib.hid hM
  have cg := B1.out.cell 0
  have cf := B1.out.cell 1
  have cs := B1.out.cell 2
  clear hM hG B0 X0 M0
  go_wp2_with (refine wpList_insert_own _ rfl _ _ _ 136 rfl 3 3 law3 Tryz.underlying136 _ (w.heap.size + 1) 1 _ rfl M1.out (by unfold maxLen; omega) _ _ _ rfl rfl (keyI (n := 1) (by decide) (by decide)) _ _ (valI (n := 256) (by decide) (by decide)) ?_)
  clear cg cf cs
  intro w2 hM hG
  have B2 := Lib.hid (B1.out.chg (Chg.grown (F := fun i => i = w.heap.size + 1) hG (fun i hi => by cases hi; rfl)) (by omega))
  have X2 := Lib.hid (grown_ex X1.out kB hG)
  have M2 := Lib.hid hM
  have cg := B2.out.cell 0
  have cf := B2.out.cell 1
  have cs := B2.out.cell 2
  clear hM hG B1 X1 M1
  go_wp2_with (refine wpList_insert_own _ rfl _ _ _ 136 rfl 3 3 law3 Tryz.underlying136 _ (w.heap.size + 1) 2 _ rfl M2.out (by unfold maxLen; omega) _ _ _ rfl rfl (keyI (n := 2) (by decide) (by decide)) _ _ (valI (n := 16) (by decide) (by decide)) ?_)
  clear cg cf cs
  intro w3 hM hG
  have B3 := Lib.hid (B2.out.chg (Chg.grown (F := fun i => i = w.heap.size + 1) hG (fun i hi => by cases hi; rfl)) (by omega))
  have X3 := Lib.hid (grown_ex X2.out kB hG)
  have M3 := Lib.hid hM
  have cg := B3.out.cell 0
  have cf := B3.out.cell 1
  have cs := B3.out.cell 2
  clear hM hG B2 X2 M2
  go_wp2_with (refine wpList_insert_own _ rfl _ _ _ 136 rfl 3 3 law3 Tryz.underlying136 _ (w.heap.size + 1) 3 _ rfl M3.out (by unfold maxLen; omega) _ _ _ rfl rfl (keyI (n := 3) (by decide) (by decide)) _ _ VG.out ?_)
  clear cg cf cs
  intro w4 hM hG
  have B4 := Lib.hid (B3.out.chg (Chg.grown (F := fun i => i = w.heap.size + 1) hG (fun i hi => by cases hi; rfl)) (by omega))
  have X4 := Lib.hid (grown_ex X3.out kB hG)
  have M4 := Lib.hid hM
  have cg := B4.out.cell 0
  have cf := B4.out.cell 1
  have cs := B4.out.cell 2
  clear hM hG B3 X3 M3
  go_wp2_with (refine wpList_insert_own _ rfl _ _ _ 136 rfl 3 3 law3 Tryz.underlying136 _ (w.heap.size + 1) 4 _ rfl M4.out (by unfold maxLen; omega) _ _ _ rfl rfl (keyI (n := 4) (by decide) (by decide)) _ _ VF.out ?_)
  clear cg cf cs
  intro w5 hM hG
  have B5 := Lib.hid (B4.out.chg (Chg.grown (F := fun i => i = w.heap.size + 1) hG (fun i hi => by cases hi; rfl)) (by omega))
  have X5 := Lib.hid (grown_ex X4.out kB hG)
  have M5 := Lib.hid hM
  have cg := B5.out.cell 0
  have cf := B5.out.cell 1
  have cs := B5.out.cell 2
  clear hM hG B4 X4 M4
  go_wp2_with (refine wpList_insert_own _ rfl _ _ _ 136 rfl 3 3 law3 Tryz.underlying136 _ (w.heap.size + 1) 5 _ rfl M5.out (by unfold maxLen; omega) _ _ _ rfl rfl (keyI (n := 5) (by decide) (by decide)) _ _ VS.out ?_)
  clear cg cf cs
  intro w6 hM hG
  have B6 := Lib.hid (B5.out.chg (Chg.grown (F := fun i => i = w.heap.size + 1) hG (fun i hi => by cases hi; rfl)) (by omega))
  have X6 := Lib.hid (grown_ex X5.out kB hG)
  have M6 := Lib.hid hM
  have cg := B6.out.cell 0
  have cf := B6.out.cell 1
  have cs := B6.out.cell 2
  clear hM hG B5 X5 M5
  go_wp2_with (refine wpList_insert_own _ rfl _ _ _ 136 rfl 3 3 law3 Tryz.underlying136 _ (w.heap.size + 1) 6 _ rfl M6.out (by unfold maxLen; omega) _ _ _ rfl rfl (keyI (n := 6) (by decide) (by decide)) _ _ (valI (n := 32) (by decide) (by decide)) ?_)
  clear cg cf cs
  intro w7 hM hG
  have B7 := Lib.hid (B6.out.chg (Chg.grown (F := fun i => i = w.heap.size + 1) hG (fun i hi => by cases hi; rfl)) (by omega))
  have X7 := Lib.hid (grown_ex X6.out kB hG)
  have M7 := Lib.hid hM
  have cg := B7.out.cell 0
  have cf := B7.out.cell 1
  have cs := B7.out.cell 2
  clear hM hG B6 X6 M6
  obtain ⟨r, hr, hat, -⟩ := M7.out.lookup_int (key := .int .i64 (c : Int)) law3 Tryz.underlying136 Tryz.underlying3 (Tryz.zeroValue3 _) (keyI (n := (c : Int)) (by omega) (by omega))
  have hat' := limD_at g f s c hc
  have hrl : r = lim g f s c := by
    have e := hat.symm.trans hat'
    simpa using e
  rw [← hrl] at HT
  clear hat hat' hrl
  by_cases h1 : 0 ≤ v
  · by_cases h2 : v < r
    · have ht : t = true := by rw [← HT.out]; simp [h1, h2]
      subst ht
      go_wp2_with fail
      go_ret
      exact ⟨rfl, X7.out⟩
    · have ht : t = false := by rw [← HT.out]; simp [h2]
      subst ht
      go_wp2_with fail
      go_ret
      exact ⟨rfl, X7.out⟩
  · have ht : t = false := by rw [← HT.out]; simp [h1]
    subst ht
    go_wp2_with fail
    go_ret
    exact ⟨rfl, X7.out⟩

end Go.Proofs.YtmlobpapjfkbmaaGreat.C15

/- Package code: parts. -/
namespace Go.Proofs.YtmlobpapjfkbmaaGreat.C15
open Go.RowKit
set_option linter.unusedVariables false
set_option maxRecDepth 20000

/-- What may stand in the three parts of each. -/
def kdT : List Nat := [0,0,0, 2,1,0, 2,2,1, 2,1,2, 2,2,0, 2,0,0, 2,3,0, 3,2,0, 4,2,0, 0,0,0, 0,1,1, 6,0,0, 6,0,0, 2,2,0, 5,0,0, 2,2,5, 1,1,0, 5,0,0]
def kd (op k : Nat) : Nat := kdT.getD (op * 3 + k) 0
def partsV : Array Value := (kdT.map fun n : Nat => Value.int .i64 (n : Int)).toArray

def partsZ : Array Value := #[.int .i64 0, .int .i64 0, .int .i64 0, .int .i64 0, .int .i64 0, .int .i64 0, .int .i64 0, .int .i64 0, .int .i64 0, .int .i64 0, .int .i64 0, .int .i64 0, .int .i64 0, .int .i64 0, .int .i64 0, .int .i64 0, .int .i64 0, .int .i64 0, .int .i64 0, .int .i64 0, .int .i64 0, .int .i64 0, .int .i64 0, .int .i64 0, .int .i64 0, .int .i64 0, .int .i64 0, .int .i64 0, .int .i64 0, .int .i64 0, .int .i64 0, .int .i64 0, .int .i64 0, .int .i64 0, .int .i64 0, .int .i64 0, .int .i64 0, .int .i64 0, .int .i64 0, .int .i64 0, .int .i64 0, .int .i64 0, .int .i64 0, .int .i64 0, .int .i64 0, .int .i64 0, .int .i64 0, .int .i64 0, .int .i64 0, .int .i64 0, .int .i64 0, .int .i64 0, .int .i64 0, .int .i64 0]
theorem below_row {w w1 : World} {B g : Nat} (h : Below B w w1) (hg : B ≤ g) (ds : Array Value) : Below B w (w1.setRow g ds) := below_setRow h hg ds

set_option maxRecDepth 20000 in
set_option maxHeartbeats 3200000 in
theorem parts_any (w : World) : Calls Tryz.prog 79 #[] w fun e w' => e = .returned (.agg partsV) ∧ Ex w w' := by
  go_enter Tryz.func79, Tryz.ntmps79
  go_upto_region 1 with fail
  have e0 := Ex.made w (.cells partsZ 123)
  have b1 := Box.fresh w partsZ 123
  obtain ⟨W, hW⟩ : ∃ W, W = w.alloc (.cells partsZ 123) := ⟨_, rfl⟩
  rw [← hW] at e0 b1
  change Code.wp _ _ _ _ (w.alloc (.cells partsZ 123))
  rw [← hW]
  have E0 := Lib.hid e0
  have B1 := Lib.hid b1
  clear hW e0 b1
  have B2 := Lib.hid (Box.row (ds := partsV) B1.out)
  have E2 : Hid (Ex w (W.setRow w.heap.size partsV)) := Lib.hid (below_row E0.out (Nat.le_refl w.heap.size) partsV)
  refine wp_region_list ?_
  go_wp2_with (refine wpList_store_row rfl 123 (.tmp 0) (.tmp 19) rfl w.heap.size partsV rfl rfl 123 partsZ B1.out (by kernel_rfl) rfl (by kernel_rfl) ?_)
  obtain ⟨U, hU⟩ : ∃ U, U = W.setRow w.heap.size partsV := ⟨_, rfl⟩
  rw [← hU] at B2 E2 ⊢
  clear hU
  go_wp2
  exact bodyPost_ret (results_cell_row rfl _ _ w.heap.size 123 partsV (0, 0) _ rfl B2.out Tryz.underlying123 rfl (by kernel_rfl)) rfl ⟨rfl, E2.out⟩

end Go.Proofs.YtmlobpapjfkbmaaGreat.C15

/- Package code: wrong. -/
namespace Go.Proofs.YtmlobpapjfkbmaaGreat.C15
open Go.RowKit
set_option linter.unusedVariables false
set_option maxRecDepth 20000
set_option linter.unusedSimpArgs false
attribute [local go_sem ↓] Go.wp_at_zero Go.wp_at_succ

abbrev I4 := Int × Int × Int × Int
def okP (g f s : Int) (op k : Nat) (v : Int) : Bool := decide (0 ≤ v ∧ v < lim g f s (kd op k))
/-- The first part that may not be; -1: none. -/
def wrongI (g f s : Int) (x : I4) : Int :=
  if x.1 < 0 ∨ 17 < x.1 then 0 else if okP g f s x.1.toNat 0 x.2.1 = false then 1 else if okP g f s x.1.toNat 1 x.2.2.1 = false then 2 else if okP g f s x.1.toNat 2 x.2.2.2 = false then 3 else -1

theorem kdT_lt : ∀ x ∈ kdT, x < 7 := by decide
theorem kd_lt (op k : Nat) : kd op k < 7 := by
  unfold kd
  by_cases h : op * 3 + k < kdT.length
  · have e : kdT.getD (op * 3 + k) 0 = kdT[op * 3 + k] := by simp [List.getD, h]
    rw [e]
    exact kdT_lt _ (List.getElem_mem h)
  · have e : kdT.getD (op * 3 + k) 0 = 0 := by simp [List.getD, List.getElem?_eq_none (Nat.le_of_not_lt h)]
    rw [e]; omega

def rowV (op : Nat) : Value := .agg #[.int .i64 (kd op 0 : Nat), .int .i64 (kd op 1 : Nat), .int .i64 (kd op 2 : Nat)]
theorem idx_parts (op : Nat) (h : op < 18) (w : World) : (Instr.index 123 (.agg partsV) (.int .i64 (op : Int))).run Tryz.prog w = .ok (rowV op) w := by
  match op, h with
  | 0, _ => rfl
  | 1, _ => rfl
  | 2, _ => rfl
  | 3, _ => rfl
  | 4, _ => rfl
  | 5, _ => rfl
  | 6, _ => rfl
  | 7, _ => rfl
  | 8, _ => rfl
  | 9, _ => rfl
  | 10, _ => rfl
  | 11, _ => rfl
  | 12, _ => rfl
  | 13, _ => rfl
  | 14, _ => rfl
  | 15, _ => rfl
  | 16, _ => rfl
  | 17, _ => rfl
  | n + 18, h => omega
theorem idx_three (x y z : Value) (w : World) : (Instr.index 122 (.agg #[x, y, z]) (.int .i64 0)).run Tryz.prog w = .ok x w ∧ (Instr.index 122 (.agg #[x, y, z]) (.int .i64 1)).run Tryz.prog w = .ok y w ∧ (Instr.index 122 (.agg #[x, y, z]) (.int .i64 2)).run Tryz.prog w = .ok z w := ⟨rfl, rfl, rfl⟩

structure FB3 (g f s : Int) : Prop where
  g : 0 ≤ g ∧ g ≤ 100000
  f : 0 ≤ f ∧ f ≤ 100000
  s : 0 ≤ s ∧ s ≤ 100000

theorem fits_kd (W : World) {g f s : Int} (h : FB3 g f s) (op k : Nat) (v : Int) (t : Bool) (ht : okP g f s op k v = t) :
    Calls Tryz.prog 80 #[.agg #[.int .i64 g, .int .i64 f, .int .i64 s], .int .i64 ((kd op k : Nat) : Int), .int .i64 v] W fun e w' => e = .returned (.bool t) ∧ Ex W w' := by
  rw [← ht]
  exact fits_any W g f s v (kd op k) (kd_lt op k) h.g h.f h.s

theorem ex_drew (w : World) : Ex w w.drew := Ex.drawn w 1
theorem cells6 {W W' : World} {p1 p2 p3 p4 p5 p6 : Addr} {v1 v2 v3 v4 v5 v6 : Value} (h : Ex W W') (k : W.cell? p1 = some v1 ∧ W.cell? p2 = some v2 ∧ W.cell? p3 = some v3 ∧ W.cell? p4 = some v4 ∧ W.cell? p5 = some v5 ∧ W.cell? p6 = some v6) :
    W'.cell? p1 = some v1 ∧ W'.cell? p2 = some v2 ∧ W'.cell? p3 = some v3 ∧ W'.cell? p4 = some v4 ∧ W'.cell? p5 = some v5 ∧ W'.cell? p6 = some v6 :=
  ⟨cell_later h k.1, cell_later h k.2.1, cell_later h k.2.2.1, cell_later h k.2.2.2.1, cell_later h k.2.2.2.2.1, cell_later h k.2.2.2.2.2⟩

set_option maxRecDepth 20000 in
set_option maxHeartbeats 3200000 in
theorem wrong_out (w : World) (g f s op a b c : Int) (h : op < 0 ∨ 17 < op) :
    Calls Tryz.prog 49 #[.agg #[.int .i64 g, .int .i64 f, .int .i64 s], .agg #[.int .i64 op, .int .i64 a, .int .i64 b, .int .i64 c]] w fun e w' => e = .returned (.int .i64 0) ∧ Ex w w' := by
  rcases h with h | h
  all_goals
    go_enter Tryz.func49, Tryz.ntmps49
    go_wp2_with fail
    go_ret
    exact ⟨rfl, (Ex.made _ _).trans (Ex.made _ _)⟩

set_option maxRecDepth 20000 in
set_option maxHeartbeats 6400000 in
theorem wrong_in (w : World) (g f s a b c : Int) (op : Nat) (h : op < 18) (hb : FB3 g f s) (r : Int) (hr : (if okP g f s op 0 a = false then (1 : Int) else if okP g f s op 1 b = false then 2 else if okP g f s op 2 c = false then 3 else -1) = r) :
    Calls Tryz.prog 49 #[.agg #[.int .i64 g, .int .i64 f, .int .i64 s], .agg #[.int .i64 (op : Int), .int .i64 a, .int .i64 b, .int .i64 c]] w fun e w' => e = .returned (.int .i64 r) ∧ Ex w w' := by
  have ip := idx_parts op h
  obtain ⟨R, hR⟩ : ∃ R, rowV op = R := ⟨_, rfl⟩
  obtain ⟨P, hP⟩ : ∃ R, partsV = R := ⟨_, rfl⟩
  rw [hR, hP] at ip
  have K := parts_any
  rw [hP] at K
  have HK := Lib.hid K
  have HR := Lib.hid hR
  have HB := Lib.hid hb
  have h18 : (op : Int) ≤ 17 := by omega
  clear hR hP K hb
  go_enter Tryz.func49, Tryz.ntmps49
  go_upto_region 3 with fail
  have e0 : Ex w ((w.alloc (.cells #[.int .i64 g, .int .i64 f, .int .i64 s] 97)).alloc (.cells #[.int .i64 (op : Int), .int .i64 a, .int .i64 b, .int .i64 c] 58)) := (Ex.made _ _).trans (Ex.made _ _)
  have b1 : Box ((w.alloc (.cells #[.int .i64 g, .int .i64 f, .int .i64 s] 97)).alloc (.cells #[.int .i64 (op : Int), .int .i64 a, .int .i64 b, .int .i64 c] 58)) w.heap.size #[.int .i64 g, .int .i64 f, .int .i64 s] 97 := (Box.fresh w _ _).ex (Ex.made _ _)
  have b2 : Box ((w.alloc (.cells #[.int .i64 g, .int .i64 f, .int .i64 s] 97)).alloc (.cells #[.int .i64 (op : Int), .int .i64 a, .int .i64 b, .int .i64 c] 58)) (w.heap.size + 1) #[.int .i64 (op : Int), .int .i64 a, .int .i64 b, .int .i64 c] 58 := by
    have := Box.fresh (w.alloc (.cells #[.int .i64 g, .int .i64 f, .int .i64 s] 97)) #[.int .i64 (op : Int), .int .i64 a, .int .i64 b, .int .i64 c] 58
    simpa using this
  obtain ⟨V, hV⟩ : ∃ V, V = ((w.alloc (.cells #[.int .i64 g, .int .i64 f, .int .i64 s] 97)).alloc (.cells #[.int .i64 (op : Int), .int .i64 a, .int .i64 b, .int .i64 c] 58)) := ⟨_, rfl⟩
  rw [← hV] at e0 b1 b2 ⊢
  clear hV
  have E0 := Lib.hid e0
  have B1 := Lib.hid b1
  have B2 := Lib.hid b2
  have o0 := b2.out 0
  clear e0 b1 b2
  refine wp_region_ex (by kernel_rfl) (by kernel_rfl) ?_
  repeat (go_big_quiet_step ((go_at_call 79; exact quiet_ex (HK.out _))))
  refine wpQuiet_nil ?_
  rintro w4 ⟨⟨wz, hw⟩, rfl⟩
  have E1 := Lib.hid (E0.out.trans hw)
  have B3 := Lib.hid (B1.out.ex hw)
  have B4 := Lib.hid (B2.out.ex hw)
  clear hw o0
  rw [← HR.out]
  unfold rowV
  have FK0 := fun W => fits_kd W HB.out op 0 a _ rfl
  have FK1 := fun W => fits_kd W HB.out op 1 b _ rfl
  have FK2 := fun W => fits_kd W HB.out op 2 c _ rfl
  generalize ((kd op 0 : Nat) : Int) = q0 at *
  generalize ((kd op 1 : Nat) : Int) = q1 at *
  generalize ((kd op 2 : Nat) : Int) = q2 at *
  obtain ⟨t0, h0⟩ : ∃ t, okP g f s op 0 a = t := ⟨_, rfl⟩
  obtain ⟨t1, h1⟩ : ∃ t, okP g f s op 1 b = t := ⟨_, rfl⟩
  obtain ⟨t2, h2⟩ : ∃ t, okP g f s op 2 c = t := ⟨_, rfl⟩
  rw [h0] at FK0 hr
  rw [h1] at FK1 hr
  rw [h2] at FK2 hr
  have FH0 := Lib.hid FK0
  have FH1 := Lib.hid FK1
  have FH2 := Lib.hid FK2
  have HRR := Lib.hid hr
  have idx := fun W => idx_three (.int .i64 q0) (.int .i64 q1) (.int .i64 q2) W
  have IX := Lib.hid idx
  clear FK0 FK1 FK2 h0 h1 h2 hr HR ip idx
  go_wp2_with fail
  go_loopw [19] (fun iv wr => ∃ k : Nat, k ≤ 3 ∧ iv = .int .i64 k ∧ (∀ j, j < k → [t0, t1, t2].getD j true = true) ∧ Ex w wr ∧ Box wr w.heap.size #[.int .i64 g, .int .i64 f, .int .i64 s] 97 ∧ Box wr (w.heap.size + 1) #[.int .i64 (op : Int), .int .i64 a, .int .i64 b, .int .i64 c] 58) (fun iv _ => 3 - (intOf iv).toNat)
  case atStart => exact ⟨0, by omega, rfl, fun j hj => absurd hj (Nat.not_lt_zero j), E1.out, B3.out, B4.out⟩
  case round =>
    obtain ⟨k, hk, rfl, hok, hx, hb1, hb2⟩ := hrel
    have OK := Lib.hid hok
    have X := Lib.hid hx
    have C1 := Lib.hid hb1
    have C2 := Lib.hid hb2
    have f0 : wr.cell? ⟨w.heap.size, 0, none⟩ = some (.int .i64 g) := hb1.cell 0
    have f1 : wr.cell? ⟨w.heap.size, 1, none⟩ = some (.int .i64 f) := hb1.cell 1
    have f2 : wr.cell? ⟨w.heap.size, 2, none⟩ = some (.int .i64 s) := hb1.cell 2
    have x1 : wr.cell? ⟨w.heap.size + 1, 1, none⟩ = some (.int .i64 a) := hb2.cell 1
    have x2 : wr.cell? ⟨w.heap.size + 1, 2, none⟩ = some (.int .i64 b) := hb2.cell 2
    have x3 : wr.cell? ⟨w.heap.size + 1, 3, none⟩ = some (.int .i64 c) := hb2.cell 3
    clear hok hx hb1 hb2 E1 B3 B4
    by_cases hlt : k < 3
    · rcases (by omega : k = 0 ∨ k = 1 ∨ k = 2) with hk0 | hk1 | hk2
      · subst hk0
        have ix := fun W => (IX.out W).1
        rw [show ((0 : Nat) : Int) = 0 from rfl]
        go_upto_region 6 with fail
        have l1 := C1.out.lt
        have l2 := C2.out.lt
        refine wp_region_held_drew (S := fun w' => w'.cell? ⟨w.heap.size, 0, none⟩ = some (.int .i64 g) ∧ w'.cell? ⟨w.heap.size, 1, none⟩ = some (.int .i64 f) ∧ w'.cell? ⟨w.heap.size, 2, none⟩ = some (.int .i64 s) ∧ w'.cell? ⟨w.heap.size + 1, 1, none⟩ = some (.int .i64 a) ∧ w'.cell? ⟨w.heap.size + 1, 2, none⟩ = some (.int .i64 b) ∧ w'.cell? ⟨w.heap.size + 1, 3, none⟩ = some (.int .i64 c)) (by kernel_rfl) ?_ (fun hHeld => ?_)
        · go_keep
        refine wpAnyH_take (i := 0) (v := ?_) rfl (by kernel_rfl) (by kernel_rfl) (by kernel_rfl) (fun _ _ _ h => h) (Or.inl ⟨by rfl, ?_⟩) (by assumption) ?_
        rotate_left
        · intro w hSw; (try dsimp only at hSw); go_simp; try with_reducible rfl
        try simp only [Act.put, List.setIfInBounds_toArray, List.set_cons_zero, List.set_cons_succ]
        refine wpAnyH_take (i := 1) (v := ?_) rfl (by kernel_rfl) (by kernel_rfl) (by kernel_rfl) (fun _ _ _ h => h) (Or.inl ⟨by rfl, ?_⟩) (by assumption) ?_
        rotate_left
        · intro w hSw; (try dsimp only at hSw); go_simp; try with_reducible rfl
        try simp only [Act.put, List.setIfInBounds_toArray, List.set_cons_zero, List.set_cons_succ]
        refine wpAnyH_take (i := 2) (v := ?_) rfl (by kernel_rfl) (by kernel_rfl) (by kernel_rfl) (fun _ _ _ h => h) (Or.inl ⟨by rfl, ?_⟩) (by assumption) ?_
        rotate_left
        · intro w hSw; (try dsimp only at hSw); go_simp; try with_reducible rfl
        try simp only [Act.put, List.setIfInBounds_toArray, List.set_cons_zero, List.set_cons_succ]
        refine wpAnyH_take (i := 3) (v := ?_) rfl (by kernel_rfl) (by kernel_rfl) (by kernel_rfl) (fun _ _ _ h => h) (Or.inl ⟨by rfl, ?_⟩) (by assumption) ?_
        rotate_left
        · intro w hSw; (try dsimp only at hSw); go_simp; try with_reducible rfl
        try simp only [Act.put, List.setIfInBounds_toArray, List.set_cons_zero, List.set_cons_succ]
        refine wpAnyH_take (i := 4) (v := ?_) rfl (by kernel_rfl) (by kernel_rfl) (by kernel_rfl) (fun _ _ _ h => h) (Or.inl ⟨by rfl, ?_⟩) (by assumption) ?_
        rotate_left
        · intro w hSw; (try dsimp only at hSw); go_simp; try with_reducible rfl
        try simp only [Act.put, List.setIfInBounds_toArray, List.set_cons_zero, List.set_cons_succ]
        refine wpAnyH_take (i := 5) (v := ?_) rfl (by kernel_rfl) (by kernel_rfl) (by kernel_rfl) (fun _ _ _ h => h) (Or.inl ⟨by rfl, ?_⟩) (by assumption) ?_
        rotate_left
        · intro w hSw; (try dsimp only at hSw); go_simp; try with_reducible rfl
        try simp only [Act.put, List.setIfInBounds_toArray, List.set_cons_zero, List.set_cons_succ]
        refine wpAnyH_take (i := 6) (v := ?_) rfl (by kernel_rfl) (by kernel_rfl) (by kernel_rfl) (fun _ _ _ h => h) (Or.inl ⟨by rfl, ?_⟩) (by assumption) ?_
        rotate_left
        · intro w hSw; (try dsimp only at hSw); go_simp; try with_reducible rfl
        try simp only [Act.put, List.setIfInBounds_toArray, List.set_cons_zero, List.set_cons_succ]
        refine wpAnyH_take (i := 7) (v := ?_) rfl (by kernel_rfl) (by kernel_rfl) (by kernel_rfl) (fun _ _ _ h => h) (Or.inl ⟨by rfl, ?_⟩) (by assumption) ?_
        rotate_left
        · intro w hSw; (try dsimp only at hSw); go_simp; try with_reducible rfl
        try simp only [Act.put, List.setIfInBounds_toArray, List.set_cons_zero, List.set_cons_succ]
        refine wpAnyH_take (i := 9) (v := ?_) rfl (by kernel_rfl) (by kernel_rfl) (by kernel_rfl) (fun _ _ _ h => h) (Or.inl ⟨by rfl, ?_⟩) (by assumption) ?_
        rotate_left
        · intro w hSw; (try dsimp only at hSw); go_simp; try with_reducible rfl
        try simp only [Act.put, List.setIfInBounds_toArray, List.set_cons_zero, List.set_cons_succ]
        refine wpAnyH_ready (rs := [8]) (by kernel_rfl) (by simp) ?_
        refine AllReadyH.cons rfl (fun K hK => ?_) AllReadyH.nil
        go_simp
        refine hK.out _ _ ?_ (fun hHeld => ?_)
        · first | go_keep | exact cells6 h5 (by assumption)
        clear hK K
        try simp only [Act.put, List.setIfInBounds_toArray, List.set_cons_zero, List.set_cons_succ]
        refine wpAnyH_take (i := 10) (v := ?_) rfl (by kernel_rfl) (by kernel_rfl) (by kernel_rfl) (fun _ _ _ h => h) (Or.inl ⟨by rfl, ?_⟩) (by assumption) ?_
        rotate_left
        · intro w hSw; (try dsimp only at hSw); go_simp; try with_reducible rfl
        try simp only [Act.put, List.setIfInBounds_toArray, List.set_cons_zero, List.set_cons_succ]
        refine wpAnyH_ready (rs := [11]) (by kernel_rfl) (by simp) ?_
        refine AllReadyH.cons rfl (fun K hK => ?_) AllReadyH.nil
        go_simp
        refine hK.out _ _ ?_ (fun hHeld => ?_)
        · first | go_keep | exact cells6 h5 (by assumption)
        clear hK K
        try simp only [Act.put, List.setIfInBounds_toArray, List.set_cons_zero, List.set_cons_succ]
        refine wpAnyH_ready (rs := [12]) (by kernel_rfl) (by simp) ?_
        refine AllReadyH.cons rfl (fun K hK => ?_) AllReadyH.nil
        (go_simp; go_at_call 80; (with_reducible refine (FH0.out _).mono ?_); rintro e w5 ⟨rfl, h5⟩; try dsimp only)
        refine hK.out _ _ ?_ (fun hHeld => ?_)
        · first | go_keep | exact cells6 h5 (by assumption)
        clear hK K
        try simp only [Act.put, List.setIfInBounds_toArray, List.set_cons_zero, List.set_cons_succ]
        refine wpAnyH_take (i := 13) (v := ?_) rfl (by kernel_rfl) (by kernel_rfl) (by kernel_rfl) (fun _ _ _ h => h) (Or.inl ⟨by rfl, ?_⟩) (by assumption) ?_
        rotate_left
        · intro w hSw; (try dsimp only at hSw); go_simp; try with_reducible rfl
        try simp only [Act.put, List.setIfInBounds_toArray, List.set_cons_zero, List.set_cons_succ]
        refine wpAnyH_done (by kernel_rfl) ?_ _
        have X5 := Lib.hid (((ex_drew wr).trans (Ex.made _ _)).trans h5)
        clear h5 f0 f1 f2 x1 x2 x3 hHeld
        cases t0 with
        | true =>
          go_wp2_with fail
          go_roundw
          case rel =>
            refine ⟨1, by omega, by go_num, ?_, X.out.trans X5.out, C1.out.ex X5.out, C2.out.ex X5.out⟩
            intro j hj
            by_cases e : j = 0
            · subst e; rfl
            · exact OK.out j (by omega)
          case measure => simp [intOf]
        | false =>
          go_wp2_with fail
          go_ret
          have hr := HRR.out
          simp at hr
          exact ⟨by rw [← hr]; rfl, X.out.trans X5.out⟩
      · subst hk1
        have ix := fun W => (IX.out W).2.1
        rw [show ((1 : Nat) : Int) = 1 from rfl]
        go_upto_region 6 with fail
        have l1 := C1.out.lt
        have l2 := C2.out.lt
        refine wp_region_held_drew (S := fun w' => w'.cell? ⟨w.heap.size, 0, none⟩ = some (.int .i64 g) ∧ w'.cell? ⟨w.heap.size, 1, none⟩ = some (.int .i64 f) ∧ w'.cell? ⟨w.heap.size, 2, none⟩ = some (.int .i64 s) ∧ w'.cell? ⟨w.heap.size + 1, 1, none⟩ = some (.int .i64 a) ∧ w'.cell? ⟨w.heap.size + 1, 2, none⟩ = some (.int .i64 b) ∧ w'.cell? ⟨w.heap.size + 1, 3, none⟩ = some (.int .i64 c)) (by kernel_rfl) ?_ (fun hHeld => ?_)
        · go_keep
        refine wpAnyH_take (i := 0) (v := ?_) rfl (by kernel_rfl) (by kernel_rfl) (by kernel_rfl) (fun _ _ _ h => h) (Or.inl ⟨by rfl, ?_⟩) (by assumption) ?_
        rotate_left
        · intro w hSw; (try dsimp only at hSw); go_simp; try with_reducible rfl
        try simp only [Act.put, List.setIfInBounds_toArray, List.set_cons_zero, List.set_cons_succ]
        refine wpAnyH_take (i := 1) (v := ?_) rfl (by kernel_rfl) (by kernel_rfl) (by kernel_rfl) (fun _ _ _ h => h) (Or.inl ⟨by rfl, ?_⟩) (by assumption) ?_
        rotate_left
        · intro w hSw; (try dsimp only at hSw); go_simp; try with_reducible rfl
        try simp only [Act.put, List.setIfInBounds_toArray, List.set_cons_zero, List.set_cons_succ]
        refine wpAnyH_take (i := 2) (v := ?_) rfl (by kernel_rfl) (by kernel_rfl) (by kernel_rfl) (fun _ _ _ h => h) (Or.inl ⟨by rfl, ?_⟩) (by assumption) ?_
        rotate_left
        · intro w hSw; (try dsimp only at hSw); go_simp; try with_reducible rfl
        try simp only [Act.put, List.setIfInBounds_toArray, List.set_cons_zero, List.set_cons_succ]
        refine wpAnyH_take (i := 3) (v := ?_) rfl (by kernel_rfl) (by kernel_rfl) (by kernel_rfl) (fun _ _ _ h => h) (Or.inl ⟨by rfl, ?_⟩) (by assumption) ?_
        rotate_left
        · intro w hSw; (try dsimp only at hSw); go_simp; try with_reducible rfl
        try simp only [Act.put, List.setIfInBounds_toArray, List.set_cons_zero, List.set_cons_succ]
        refine wpAnyH_take (i := 4) (v := ?_) rfl (by kernel_rfl) (by kernel_rfl) (by kernel_rfl) (fun _ _ _ h => h) (Or.inl ⟨by rfl, ?_⟩) (by assumption) ?_
        rotate_left
        · intro w hSw; (try dsimp only at hSw); go_simp; try with_reducible rfl
        try simp only [Act.put, List.setIfInBounds_toArray, List.set_cons_zero, List.set_cons_succ]
        refine wpAnyH_take (i := 5) (v := ?_) rfl (by kernel_rfl) (by kernel_rfl) (by kernel_rfl) (fun _ _ _ h => h) (Or.inl ⟨by rfl, ?_⟩) (by assumption) ?_
        rotate_left
        · intro w hSw; (try dsimp only at hSw); go_simp; try with_reducible rfl
        try simp only [Act.put, List.setIfInBounds_toArray, List.set_cons_zero, List.set_cons_succ]
        refine wpAnyH_take (i := 6) (v := ?_) rfl (by kernel_rfl) (by kernel_rfl) (by kernel_rfl) (fun _ _ _ h => h) (Or.inl ⟨by rfl, ?_⟩) (by assumption) ?_
        rotate_left
        · intro w hSw; (try dsimp only at hSw); go_simp; try with_reducible rfl
        try simp only [Act.put, List.setIfInBounds_toArray, List.set_cons_zero, List.set_cons_succ]
        refine wpAnyH_take (i := 7) (v := ?_) rfl (by kernel_rfl) (by kernel_rfl) (by kernel_rfl) (fun _ _ _ h => h) (Or.inl ⟨by rfl, ?_⟩) (by assumption) ?_
        rotate_left
        · intro w hSw; (try dsimp only at hSw); go_simp; try with_reducible rfl
        try simp only [Act.put, List.setIfInBounds_toArray, List.set_cons_zero, List.set_cons_succ]
        refine wpAnyH_take (i := 9) (v := ?_) rfl (by kernel_rfl) (by kernel_rfl) (by kernel_rfl) (fun _ _ _ h => h) (Or.inl ⟨by rfl, ?_⟩) (by assumption) ?_
        rotate_left
        · intro w hSw; (try dsimp only at hSw); go_simp; try with_reducible rfl
        try simp only [Act.put, List.setIfInBounds_toArray, List.set_cons_zero, List.set_cons_succ]
        refine wpAnyH_ready (rs := [8]) (by kernel_rfl) (by simp) ?_
        refine AllReadyH.cons rfl (fun K hK => ?_) AllReadyH.nil
        go_simp
        refine hK.out _ _ ?_ (fun hHeld => ?_)
        · first | go_keep | exact cells6 h5 (by assumption)
        clear hK K
        try simp only [Act.put, List.setIfInBounds_toArray, List.set_cons_zero, List.set_cons_succ]
        refine wpAnyH_take (i := 10) (v := ?_) rfl (by kernel_rfl) (by kernel_rfl) (by kernel_rfl) (fun _ _ _ h => h) (Or.inl ⟨by rfl, ?_⟩) (by assumption) ?_
        rotate_left
        · intro w hSw; (try dsimp only at hSw); go_simp; try with_reducible rfl
        try simp only [Act.put, List.setIfInBounds_toArray, List.set_cons_zero, List.set_cons_succ]
        refine wpAnyH_ready (rs := [11]) (by kernel_rfl) (by simp) ?_
        refine AllReadyH.cons rfl (fun K hK => ?_) AllReadyH.nil
        go_simp
        refine hK.out _ _ ?_ (fun hHeld => ?_)
        · first | go_keep | exact cells6 h5 (by assumption)
        clear hK K
        try simp only [Act.put, List.setIfInBounds_toArray, List.set_cons_zero, List.set_cons_succ]
        refine wpAnyH_ready (rs := [12]) (by kernel_rfl) (by simp) ?_
        refine AllReadyH.cons rfl (fun K hK => ?_) AllReadyH.nil
        (go_simp; go_at_call 80; (with_reducible refine (FH1.out _).mono ?_); rintro e w5 ⟨rfl, h5⟩; try dsimp only)
        refine hK.out _ _ ?_ (fun hHeld => ?_)
        · first | go_keep | exact cells6 h5 (by assumption)
        clear hK K
        try simp only [Act.put, List.setIfInBounds_toArray, List.set_cons_zero, List.set_cons_succ]
        refine wpAnyH_take (i := 13) (v := ?_) rfl (by kernel_rfl) (by kernel_rfl) (by kernel_rfl) (fun _ _ _ h => h) (Or.inl ⟨by rfl, ?_⟩) (by assumption) ?_
        rotate_left
        · intro w hSw; (try dsimp only at hSw); go_simp; try with_reducible rfl
        try simp only [Act.put, List.setIfInBounds_toArray, List.set_cons_zero, List.set_cons_succ]
        refine wpAnyH_done (by kernel_rfl) ?_ _
        have X5 := Lib.hid (((ex_drew wr).trans (Ex.made _ _)).trans h5)
        clear h5 f0 f1 f2 x1 x2 x3 hHeld
        cases t1 with
        | true =>
          go_wp2_with fail
          go_roundw
          case rel =>
            refine ⟨2, by omega, by go_num, ?_, X.out.trans X5.out, C1.out.ex X5.out, C2.out.ex X5.out⟩
            intro j hj
            by_cases e : j = 1
            · subst e; rfl
            · exact OK.out j (by omega)
          case measure => simp [intOf]
        | false =>
          go_wp2_with fail
          have p0 : t0 = true := OK.out 0 (by omega)
          go_ret
          have hr := HRR.out
          simp [p0] at hr
          exact ⟨by rw [← hr]; rfl, X.out.trans X5.out⟩
      · subst hk2
        have ix := fun W => (IX.out W).2.2
        rw [show ((2 : Nat) : Int) = 2 from rfl]
        go_upto_region 6 with fail
        have l1 := C1.out.lt
        have l2 := C2.out.lt
        refine wp_region_held_drew (S := fun w' => w'.cell? ⟨w.heap.size, 0, none⟩ = some (.int .i64 g) ∧ w'.cell? ⟨w.heap.size, 1, none⟩ = some (.int .i64 f) ∧ w'.cell? ⟨w.heap.size, 2, none⟩ = some (.int .i64 s) ∧ w'.cell? ⟨w.heap.size + 1, 1, none⟩ = some (.int .i64 a) ∧ w'.cell? ⟨w.heap.size + 1, 2, none⟩ = some (.int .i64 b) ∧ w'.cell? ⟨w.heap.size + 1, 3, none⟩ = some (.int .i64 c)) (by kernel_rfl) ?_ (fun hHeld => ?_)
        · go_keep
        refine wpAnyH_take (i := 0) (v := ?_) rfl (by kernel_rfl) (by kernel_rfl) (by kernel_rfl) (fun _ _ _ h => h) (Or.inl ⟨by rfl, ?_⟩) (by assumption) ?_
        rotate_left
        · intro w hSw; (try dsimp only at hSw); go_simp; try with_reducible rfl
        try simp only [Act.put, List.setIfInBounds_toArray, List.set_cons_zero, List.set_cons_succ]
        refine wpAnyH_take (i := 1) (v := ?_) rfl (by kernel_rfl) (by kernel_rfl) (by kernel_rfl) (fun _ _ _ h => h) (Or.inl ⟨by rfl, ?_⟩) (by assumption) ?_
        rotate_left
        · intro w hSw; (try dsimp only at hSw); go_simp; try with_reducible rfl
        try simp only [Act.put, List.setIfInBounds_toArray, List.set_cons_zero, List.set_cons_succ]
        refine wpAnyH_take (i := 2) (v := ?_) rfl (by kernel_rfl) (by kernel_rfl) (by kernel_rfl) (fun _ _ _ h => h) (Or.inl ⟨by rfl, ?_⟩) (by assumption) ?_
        rotate_left
        · intro w hSw; (try dsimp only at hSw); go_simp; try with_reducible rfl
        try simp only [Act.put, List.setIfInBounds_toArray, List.set_cons_zero, List.set_cons_succ]
        refine wpAnyH_take (i := 3) (v := ?_) rfl (by kernel_rfl) (by kernel_rfl) (by kernel_rfl) (fun _ _ _ h => h) (Or.inl ⟨by rfl, ?_⟩) (by assumption) ?_
        rotate_left
        · intro w hSw; (try dsimp only at hSw); go_simp; try with_reducible rfl
        try simp only [Act.put, List.setIfInBounds_toArray, List.set_cons_zero, List.set_cons_succ]
        refine wpAnyH_take (i := 4) (v := ?_) rfl (by kernel_rfl) (by kernel_rfl) (by kernel_rfl) (fun _ _ _ h => h) (Or.inl ⟨by rfl, ?_⟩) (by assumption) ?_
        rotate_left
        · intro w hSw; (try dsimp only at hSw); go_simp; try with_reducible rfl
        try simp only [Act.put, List.setIfInBounds_toArray, List.set_cons_zero, List.set_cons_succ]
        refine wpAnyH_take (i := 5) (v := ?_) rfl (by kernel_rfl) (by kernel_rfl) (by kernel_rfl) (fun _ _ _ h => h) (Or.inl ⟨by rfl, ?_⟩) (by assumption) ?_
        rotate_left
        · intro w hSw; (try dsimp only at hSw); go_simp; try with_reducible rfl
        try simp only [Act.put, List.setIfInBounds_toArray, List.set_cons_zero, List.set_cons_succ]
        refine wpAnyH_take (i := 6) (v := ?_) rfl (by kernel_rfl) (by kernel_rfl) (by kernel_rfl) (fun _ _ _ h => h) (Or.inl ⟨by rfl, ?_⟩) (by assumption) ?_
        rotate_left
        · intro w hSw; (try dsimp only at hSw); go_simp; try with_reducible rfl
        try simp only [Act.put, List.setIfInBounds_toArray, List.set_cons_zero, List.set_cons_succ]
        refine wpAnyH_take (i := 7) (v := ?_) rfl (by kernel_rfl) (by kernel_rfl) (by kernel_rfl) (fun _ _ _ h => h) (Or.inl ⟨by rfl, ?_⟩) (by assumption) ?_
        rotate_left
        · intro w hSw; (try dsimp only at hSw); go_simp; try with_reducible rfl
        try simp only [Act.put, List.setIfInBounds_toArray, List.set_cons_zero, List.set_cons_succ]
        refine wpAnyH_take (i := 9) (v := ?_) rfl (by kernel_rfl) (by kernel_rfl) (by kernel_rfl) (fun _ _ _ h => h) (Or.inl ⟨by rfl, ?_⟩) (by assumption) ?_
        rotate_left
        · intro w hSw; (try dsimp only at hSw); go_simp; try with_reducible rfl
        try simp only [Act.put, List.setIfInBounds_toArray, List.set_cons_zero, List.set_cons_succ]
        refine wpAnyH_ready (rs := [8]) (by kernel_rfl) (by simp) ?_
        refine AllReadyH.cons rfl (fun K hK => ?_) AllReadyH.nil
        go_simp
        refine hK.out _ _ ?_ (fun hHeld => ?_)
        · first | go_keep | exact cells6 h5 (by assumption)
        clear hK K
        try simp only [Act.put, List.setIfInBounds_toArray, List.set_cons_zero, List.set_cons_succ]
        refine wpAnyH_take (i := 10) (v := ?_) rfl (by kernel_rfl) (by kernel_rfl) (by kernel_rfl) (fun _ _ _ h => h) (Or.inl ⟨by rfl, ?_⟩) (by assumption) ?_
        rotate_left
        · intro w hSw; (try dsimp only at hSw); go_simp; try with_reducible rfl
        try simp only [Act.put, List.setIfInBounds_toArray, List.set_cons_zero, List.set_cons_succ]
        refine wpAnyH_ready (rs := [11]) (by kernel_rfl) (by simp) ?_
        refine AllReadyH.cons rfl (fun K hK => ?_) AllReadyH.nil
        go_simp
        refine hK.out _ _ ?_ (fun hHeld => ?_)
        · first | go_keep | exact cells6 h5 (by assumption)
        clear hK K
        try simp only [Act.put, List.setIfInBounds_toArray, List.set_cons_zero, List.set_cons_succ]
        refine wpAnyH_ready (rs := [12]) (by kernel_rfl) (by simp) ?_
        refine AllReadyH.cons rfl (fun K hK => ?_) AllReadyH.nil
        (go_simp; go_at_call 80; (with_reducible refine (FH2.out _).mono ?_); rintro e w5 ⟨rfl, h5⟩; try dsimp only)
        refine hK.out _ _ ?_ (fun hHeld => ?_)
        · first | go_keep | exact cells6 h5 (by assumption)
        clear hK K
        try simp only [Act.put, List.setIfInBounds_toArray, List.set_cons_zero, List.set_cons_succ]
        refine wpAnyH_take (i := 13) (v := ?_) rfl (by kernel_rfl) (by kernel_rfl) (by kernel_rfl) (fun _ _ _ h => h) (Or.inl ⟨by rfl, ?_⟩) (by assumption) ?_
        rotate_left
        · intro w hSw; (try dsimp only at hSw); go_simp; try with_reducible rfl
        try simp only [Act.put, List.setIfInBounds_toArray, List.set_cons_zero, List.set_cons_succ]
        refine wpAnyH_done (by kernel_rfl) ?_ _
        have X5 := Lib.hid (((ex_drew wr).trans (Ex.made _ _)).trans h5)
        clear h5 f0 f1 f2 x1 x2 x3 hHeld
        cases t2 with
        | true =>
          go_wp2_with fail
          go_roundw
          case rel =>
            refine ⟨3, by omega, by go_num, ?_, X.out.trans X5.out, C1.out.ex X5.out, C2.out.ex X5.out⟩
            intro j hj
            by_cases e : j = 2
            · subst e; rfl
            · exact OK.out j (by omega)
          case measure => simp [intOf]
        | false =>
          go_wp2_with fail
          have p0 : t0 = true := OK.out 0 (by omega)
          have p1 : t1 = true := OK.out 1 (by omega)
          go_ret
          have hr := HRR.out
          simp [p0, p1] at hr
          exact ⟨by rw [← hr]; rfl, X.out.trans X5.out⟩
    · obtain rfl : k = 3 := by omega
      have p0 : t0 = true := OK.out 0 (by omega)
      have p1 : t1 = true := OK.out 1 (by omega)
      have p2 : t2 = true := OK.out 2 (by omega)
      have P0 := Lib.hid p0
      have P1 := Lib.hid p1
      have P2 := Lib.hid p2
      clear p0 p1 p2 f0 f1 f2 x1 x2 x3
      rw [show ((3 : Nat) : Int) = 3 from rfl]
      go_wp2_with fail
      go_ret
      have hr := HRR.out
      simp [P0.out, P1.out, P2.out] at hr
      exact ⟨by rw [← hr]; rfl, X.out⟩

theorem wrong_any (w : World) {g f s : Int} (x : I4) (hb : FB3 g f s) :
    Calls Tryz.prog 49 #[.agg #[.int .i64 g, .int .i64 f, .int .i64 s], .agg #[.int .i64 x.1, .int .i64 x.2.1, .int .i64 x.2.2.1, .int .i64 x.2.2.2]] w fun e w' => e = .returned (.int .i64 (wrongI g f s x)) ∧ Ex w w' := by
  obtain ⟨op, a, b, c⟩ := x
  unfold wrongI
  by_cases h : op < 0 ∨ 17 < op
  · rw [if_pos h]
    exact wrong_out w g f s op a b c h
  · rw [if_neg h]
    obtain ⟨n, rfl⟩ := Int.eq_ofNat_of_zero_le (show 0 ≤ op by omega)
    rw [Int.toNat_natCast]
    exact wrong_in w g f s a b c n (by omega) hb _ rfl

end Go.Proofs.YtmlobpapjfkbmaaGreat.C15

/- Programs: which may be; how they are read. -/
namespace Go.Proofs.YtmlobpapjfkbmaaGreat.C15
open Go.RowKit
set_option linter.unusedVariables false
set_option maxRecDepth 20000
set_option linter.unusedSimpArgs false

/-- A slice of instructions is read. -/
def cells4 : List I4 → List Value
  | [] => []
  | x :: l => .int .i64 x.1 :: .int .i64 x.2.1 :: .int .i64 x.2.2.1 :: .int .i64 x.2.2.2 :: cells4 l
def RdI (w : World) (v : Value) (l : List I4) : Prop :=
  ((∃ a c, v = .slice a 0 c) ∧ l = []) ∨ ∃ g o cap, v = .slice (some ⟨g, o, none⟩) l.length cap ∧ g < w.heap.size ∧ l.length ≤ cap ∧ ∀ j u, (cells4 l)[j]? = some u → w.cell? ⟨g, o + j, none⟩ = some u
def RdP (w : World) (v : Value) (F : List (List I4)) : Prop :=
  ((∃ a c, v = .slice a 0 c) ∧ F = []) ∨ ∃ g o cap, ∃ lv : Nat → Value, v = .slice (some ⟨g, o, none⟩) F.length cap ∧ g < w.heap.size ∧ F.length ≤ cap ∧ ∀ i (h : i < F.length), w.cell? ⟨g, o + i, none⟩ = some (lv i) ∧ RdI w (lv i) F[i]

theorem cells4_length : ∀ l, (cells4 l).length = l.length * 4
  | [] => rfl
  | p :: l => by simp [cells4, cells4_length l]; omega
theorem cells4_append : ∀ a b, cells4 (a ++ b) = cells4 a ++ cells4 b
  | [], b => rfl
  | p :: l, b => by simp [cells4, cells4_append l b]

theorem row_base {w : World} {base : Nat} {e : TypeId} {size : Nat} {v : Value} {n : Nat} {xs : List Value} (h : w.ownsRow base e size v n xs) (i : Nat) (hi : v.ownBlock = some i) : base ≤ i ∧ i < w.heap.size := by
  rcases row_shape h with ⟨h1, -, -⟩ | ⟨g, cap, h1, h2, h3, -⟩
  · subst h1; cases hi
  · subst h1; cases hi; exact ⟨h2, h3⟩
theorem RdI.of {w : World} {base : Nat} {lv : Value} {l : List I4} (h : w.ownsRow base 58 4 lv l.length (cells4 l)) : RdI w lv l := by
  rcases row_shape h with ⟨h1, h2, -⟩ | ⟨g, cap, h1, -, h3, h4, -⟩
  · exact .inl ⟨⟨_, _, h1⟩, List.eq_nil_of_length_eq_zero h2⟩
  · subst h1
    refine .inr ⟨g, 0, cap, rfl, h3, h4, fun j u hj => ?_⟩
    have hlt : j < l.length * 4 := by
      have := (List.getElem?_eq_some_iff.1 hj).1
      rwa [cells4_length] at this
    rw [Nat.zero_add, World.ownsRow.cellAt h j hlt]
    exact hj
def badL (g n s : Int) : Int → List I4 → Except Int Int
  | k, [] => .ok k
  | k, x :: l => if 0 ≤ wrongI g n s x then .error (k + 1) else badL g n s (k + 1) l
def badF (g n : Int) : Int → List (List I4) → Except Int Int
  | k, [] => .ok k
  | k, l :: F => match badL g n l.length k l with
    | .error e => .error e
    | .ok k' => badF g n k' F
def lenOk (l : List I4) : Bool := decide (1 ≤ l.length ∧ l.length ≤ 64)
def outM : Except Int Int → Int
  | .error e => e
  | .ok _ => 0
/-- 0, or what may not be. -/
def mayI (g : Int) (F : List (List I4)) : Int :=
  if F.length < 1 ∨ 16 < F.length ∨ g < 0 ∨ 32 < g then 1 else if F.all lenOk = false then 1 else outM (badF g F.length 1 F)

theorem may_head {g : Int} {F : List (List I4)} (h : F.length < 1 ∨ 16 < F.length ∨ g < 0 ∨ 32 < g) : mayI g F = 1 := by
  unfold mayI; rw [if_pos h]
theorem may_len {g : Int} {F : List (List I4)} {i : Nat} (hi : i < F.length) (h : (F[i]).length < 1 ∨ 64 < (F[i]).length) : mayI g F = 1 := by
  unfold mayI
  by_cases k : F.length < 1 ∨ 16 < F.length ∨ g < 0 ∨ 32 < g
  · rw [if_pos k]
  · rw [if_neg k, if_pos]
    rw [List.all_eq_false]
    refine ⟨F[i], List.getElem_mem hi, ?_⟩
    unfold lenOk
    simp
    omega
theorem may_body {g : Int} {F : List (List I4)} (h1 : 1 ≤ F.length) (h2 : F.length ≤ 16) (h3 : 0 ≤ g) (h4 : g ≤ 32) (h5 : ∀ i (hi : i < F.length), 1 ≤ (F[i]).length ∧ (F[i]).length ≤ 64) : mayI g F = outM (badF g F.length 1 F) := by
  unfold mayI
  rw [if_neg (by omega), if_neg]
  rw [Bool.not_eq_false, List.all_eq_true]
  intro l hl
  obtain ⟨i, hi, rfl⟩ := List.getElem_of_mem hl
  unfold lenOk
  simpa using h5 i hi
theorem badF_drop {g n k : Int} {F : List (List I4)} {i : Nat} (hi : i < F.length) : badF g n k (F.drop i) = match badL g n (F[i]).length k F[i] with
    | .error e => .error e
    | .ok k' => badF g n k' (F.drop (i + 1)) := by
  rw [List.drop_eq_getElem_cons hi, badF]
theorem badL_drop {g n s k : Int} {l : List I4} {i : Nat} (hi : i < l.length) : badL g n s k (l.drop i) = if 0 ≤ wrongI g n s l[i] then .error (k + 1) else badL g n s (k + 1) (l.drop (i + 1)) := by
  rw [List.drop_eq_getElem_cons hi, badL]

theorem RdI.ex {w w' : World} {v : Value} {l : List I4} (h : RdI w v l) (x : Ex w w') : RdI w' v l := by
  rcases h with h1 | ⟨g, o, cap, h1, h2, h3, h4⟩
  · exact .inl h1
  · exact .inr ⟨g, o, cap, h1, Nat.lt_of_lt_of_le h2 x.size, h3, fun i u hi => cell_later x (h4 i u hi)⟩
theorem RdP.ex {w w' : World} {v : Value} {F : List (List I4)} (h : RdP w v F) (x : Ex w w') : RdP w' v F := by
  rcases h with h1 | ⟨g, o, cap, lv, h1, h2, h3, h4⟩
  · exact .inl h1
  · exact .inr ⟨g, o, cap, lv, h1, Nat.lt_of_lt_of_le h2 x.size, h3, fun i hi => ⟨cell_later x (h4 i hi).1, (h4 i hi).2.ex x⟩⟩
theorem RdP.val {w : World} {v : Value} {F : List (List I4)} (h : RdP w v F) : ∃ a cap, v = .slice a F.length cap := by
  rcases h with ⟨⟨a, c, h1⟩, h2⟩ | ⟨g, o, cap, lv, h1, -⟩
  · exact ⟨a, c, by rw [h1, h2]; rfl⟩
  · exact ⟨_, cap, h1⟩
theorem RdI.val {w : World} {v : Value} {l : List I4} (h : RdI w v l) : ∃ a cap, v = .slice a l.length cap ∧ l.length ≤ cap := by
  rcases h with ⟨⟨a, c, h1⟩, h2⟩ | ⟨g, o, cap, h1, -, h3, -⟩
  · exact ⟨a, c, by rw [h1, h2]; rfl, by simp [h2]⟩
  · exact ⟨_, cap, h1, h3⟩
/-- A function of it. -/
theorem RdP.at {w : World} {a : Option Addr} {n cap : Nat} {F : List (List I4)} (h : RdP w (.slice a n cap) F) (i : Nat) (hi : i < F.length) : ∃ g o a' cap', a = some ⟨g, o, none⟩ ∧ n = F.length ∧ n ≤ cap ∧ g < w.heap.size ∧
    w.cell? ⟨g, o + i, none⟩ = some (.slice a' (F[i]).length cap') ∧ (F[i]).length ≤ cap' ∧ RdI w (.slice a' (F[i]).length cap') F[i] := by
  rcases h with ⟨-, h2⟩ | ⟨g, o, cap', lv, h1, h2, h3, h4⟩
  · subst h2; simp at hi
  · simp only [Value.slice.injEq] at h1
    obtain ⟨rfl, rfl, rfl⟩ := h1
    obtain ⟨h5, h6⟩ := h4 i hi
    obtain ⟨a', c', e, hl⟩ := h6.val
    rw [e] at h5 h6
    exact ⟨g, o, a', c', rfl, rfl, h3, h2, h5, hl, h6⟩
theorem cells4_at : ∀ (l : List I4) (k : Nat) (h : k < l.length), (cells4 l)[k * 4]? = some (.int .i64 l[k].1) ∧ (cells4 l)[k * 4 + 1]? = some (.int .i64 l[k].2.1) ∧ (cells4 l)[k * 4 + 2]? = some (.int .i64 l[k].2.2.1) ∧ (cells4 l)[k * 4 + 3]? = some (.int .i64 l[k].2.2.2)
  | [], k, h => by simp at h
  | p :: l, 0, h => by simp [cells4]
  | p :: l, k + 1, h => by
    have ih := cells4_at l k (by simpa using h)
    rw [show (k + 1) * 4 = k * 4 + 4 by omega, show k * 4 + 4 + 1 = k * 4 + 1 + 4 by omega, show k * 4 + 4 + 2 = k * 4 + 2 + 4 by omega, show k * 4 + 4 + 3 = k * 4 + 3 + 4 by omega]
    simpa [cells4] using ih
/-- An instruction of it. -/
theorem RdI.at {w : World} {a : Option Addr} {n cap : Nat} {l : List I4} (h : RdI w (.slice a n cap) l) (i : Nat) (hi : i < l.length) : ∃ g o, a = some ⟨g, o, none⟩ ∧ g < w.heap.size ∧
    w.cell? ⟨g, o + i * 4, none⟩ = some (.int .i64 l[i].1) ∧ w.cell? ⟨g, o + i * 4 + 1, none⟩ = some (.int .i64 l[i].2.1) ∧ w.cell? ⟨g, o + i * 4 + 2, none⟩ = some (.int .i64 l[i].2.2.1) ∧ w.cell? ⟨g, o + i * 4 + 3, none⟩ = some (.int .i64 l[i].2.2.2) := by
  rcases h with ⟨-, h2⟩ | ⟨g, o, cap', h1, h2, h3, h4⟩
  · subst h2; simp at hi
  · simp only [Value.slice.injEq] at h1
    obtain ⟨rfl, rfl, rfl⟩ := h1
    obtain ⟨c0, c1, c2, c3⟩ := cells4_at l i hi
    exact ⟨g, o, rfl, h2, h4 _ _ c0, by rw [Nat.add_assoc]; exact h4 _ _ c1, by rw [Nat.add_assoc]; exact h4 _ _ c2, by rw [Nat.add_assoc]; exact h4 _ _ c3⟩

/-- The same, the function and the instruction by name. -/
theorem get_some {α : Type} {F : List α} {i : Nat} (hi : i < F.length) : ∃ l, F[i]? = some l := ⟨F[i], by simp [hi]⟩
theorem get_is {α : Type} {F : List α} {i : Nat} {l : α} (h : F[i]? = some l) : ∃ hi : i < F.length, F[i] = l := List.getElem?_eq_some_iff.1 h
theorem RdP.at2 {w : World} {a : Option Addr} {n cap : Nat} {F : List (List I4)} (h : RdP w (.slice a n cap) F) {i : Nat} {l : List I4} (hl : F[i]? = some l) : ∃ g o a' cap', a = some ⟨g, o, none⟩ ∧ n = F.length ∧ n ≤ cap ∧ g < w.heap.size ∧
    w.cell? ⟨g, o + i, none⟩ = some (.slice a' l.length cap') ∧ l.length ≤ cap' ∧ RdI w (.slice a' l.length cap') l := by
  obtain ⟨hi, rfl⟩ := get_is hl
  exact h.at i hi
theorem RdI.at2 {w : World} {a : Option Addr} {n cap : Nat} {l : List I4} (h : RdI w (.slice a n cap) l) {i : Nat} {x : I4} (hx : l[i]? = some x) : ∃ g o, a = some ⟨g, o, none⟩ ∧ g < w.heap.size ∧
    w.cell? ⟨g, o + i * 4, none⟩ = some (.int .i64 x.1) ∧ w.cell? ⟨g, o + i * 4 + 1, none⟩ = some (.int .i64 x.2.1) ∧ w.cell? ⟨g, o + i * 4 + 2, none⟩ = some (.int .i64 x.2.2.1) ∧ w.cell? ⟨g, o + i * 4 + 3, none⟩ = some (.int .i64 x.2.2.2) := by
  obtain ⟨hi, rfl⟩ := get_is hx
  exact h.at i hi
theorem may_len2 {g : Int} {F : List (List I4)} {i : Nat} {l : List I4} (hl : F[i]? = some l) (h : l.length < 1 ∨ 64 < l.length) : mayI g F = 1 := by
  obtain ⟨hi, rfl⟩ := get_is hl
  exact may_len hi h
theorem may_body2 {g : Int} {F : List (List I4)} (h1 : 1 ≤ F.length) (h2 : F.length ≤ 16) (h3 : 0 ≤ g) (h4 : g ≤ 32) (h5 : ∀ (i : Nat) (l : List I4), F[i]? = some l → 1 ≤ l.length ∧ l.length ≤ 64) : mayI g F = outM (badF g F.length 1 F) :=
  may_body h1 h2 h3 h4 (fun i hi => h5 i F[i] (by simp [hi]))
/-- What is behind a function. -/
def thenF (g n : Int) (R : List (List I4)) : Except Int Int → Except Int Int
  | .error e => .error e
  | .ok k' => badF g n k' R
theorem badF_drop2 {g n k : Int} {F : List (List I4)} {i : Nat} {l : List I4} (hl : F[i]? = some l) : badF g n k (F.drop i) = thenF g n (F.drop (i + 1)) (badL g n l.length k l) := by
  obtain ⟨hi, rfl⟩ := get_is hl
  rw [badF_drop hi]
  cases badL g n (F[i]).length k F[i] <;> rfl
theorem badL_drop2 {g n s k : Int} {l : List I4} {i : Nat} {x : I4} (hx : l[i]? = some x) : badL g n s k (l.drop i) = if 0 ≤ wrongI g n s x then .error (k + 1) else badL g n s (k + 1) (l.drop (i + 1)) := by
  obtain ⟨hi, rfl⟩ := get_is hx
  exact badL_drop hi

end Go.Proofs.YtmlobpapjfkbmaaGreat.C15

/- Which programs may be: plain. -/
namespace Go.Proofs.YtmlobpapjfkbmaaGreat.C15
open Go.RowKit
set_option linter.unusedVariables false
set_option maxRecDepth 20000
set_option linter.unusedSimpArgs false

theorem wrongI_neg {g f s : Int} {x : I4} (h : wrongI g f s x < 0) : (0 ≤ x.1 ∧ x.1 ≤ 17) ∧ okP g f s x.1.toNat 0 x.2.1 = true ∧ okP g f s x.1.toNat 1 x.2.2.1 = true ∧ okP g f s x.1.toNat 2 x.2.2.2 = true := by
  unfold wrongI at h
  by_cases h1 : x.1 < 0 ∨ 17 < x.1
  · rw [if_pos h1] at h; omega
  rw [if_neg h1] at h
  by_cases h2 : okP g f s x.1.toNat 0 x.2.1 = false
  · rw [if_pos h2] at h; omega
  rw [if_neg h2] at h
  by_cases h3 : okP g f s x.1.toNat 1 x.2.2.1 = false
  · rw [if_pos h3] at h; omega
  rw [if_neg h3] at h
  by_cases h4 : okP g f s x.1.toNat 2 x.2.2.2 = false
  · rw [if_pos h4] at h; omega
  exact ⟨by omega, by simpa using h2, by simpa using h3, by simpa using h4⟩
theorem badL_error {g n s : Int} : ∀ (l : List I4) (k e : Int), badL g n s k l = .error e → k < e
  | [], k, e, h => by cases h
  | x :: l, k, e, h => by
    rw [badL] at h
    split at h
    · cases h; omega
    · have := badL_error l (k + 1) e h; omega
theorem badL_ok {g n s : Int} : ∀ (l : List I4) (k k' : Int), badL g n s k l = .ok k' → k' = k + l.length ∧ ∀ x ∈ l, wrongI g n s x < 0
  | [], k, k', h => by cases h; exact ⟨by simp, fun x hx => by cases hx⟩
  | x :: l, k, k', h => by
    rw [badL] at h
    split at h
    · cases h
    · obtain ⟨h1, h2⟩ := badL_ok l (k + 1) k' h
      refine ⟨by simp only [List.length_cons]; omega, fun y hy => ?_⟩
      rcases List.mem_cons.1 hy with rfl | hy
      · omega
      · exact h2 y hy
theorem badF_error {g n : Int} : ∀ (F : List (List I4)) (k e : Int), badF g n k F = .error e → k < e
  | [], k, e, h => by cases h
  | l :: F, k, e, h => by
    rw [badF] at h
    cases hb : badL g n l.length k l with
    | error e' => rw [hb] at h; cases h; exact badL_error l k _ hb
    | ok k' =>
      rw [hb] at h
      have h1 := (badL_ok l k k' hb).1
      have := badF_error F k' e h
      omega
theorem badF_ok {g n : Int} : ∀ (F : List (List I4)) (k k' : Int), badF g n k F = .ok k' → ∀ l ∈ F, ∀ x ∈ l, wrongI g n l.length x < 0
  | [], k, k', h, l, hl => by cases hl
  | l0 :: F, k, k', h, l, hl => by
    rw [badF] at h
    cases hb : badL g n l0.length k l0 with
    | error e' => rw [hb] at h; cases h
    | ok k1 =>
      rw [hb] at h
      rcases List.mem_cons.1 hl with rfl | hl
      · exact (badL_ok l k k1 hb).2
      · exact badF_ok F k1 k' h l hl
/-- A program that may be. -/
structure MayBe (g : Int) (F : List (List I4)) : Prop where
  n1 : 1 ≤ F.length
  n2 : F.length ≤ 16
  g1 : 0 ≤ g
  g2 : g ≤ 32
  l1 : ∀ l ∈ F, 1 ≤ l.length ∧ l.length ≤ 64
  x1 : ∀ l ∈ F, ∀ x ∈ l, wrongI g F.length l.length x < 0
theorem may_zero {g : Int} {F : List (List I4)} (h : mayI g F = 0) : MayBe g F := by
  unfold mayI at h
  by_cases h1 : F.length < 1 ∨ 16 < F.length ∨ g < 0 ∨ 32 < g
  · rw [if_pos h1] at h; cases h
  rw [if_neg h1] at h
  by_cases h2 : F.all lenOk = false
  · rw [if_pos h2] at h; cases h
  rw [if_neg h2] at h
  rw [Bool.not_eq_false, List.all_eq_true] at h2
  have h3 : ∀ l ∈ F, 1 ≤ l.length ∧ l.length ≤ 64 := fun l hl => by have := h2 l hl; unfold lenOk at this; exact of_decide_eq_true this
  cases hb : badF g F.length 1 F with
  | error e =>
    rw [hb] at h
    have := badF_error F 1 e hb
    have h : e = 0 := h
    omega
  | ok k => exact ⟨by omega, by omega, by omega, by omega, h3, fun l hl => badF_ok F 1 k hb l hl⟩
theorem MayBe.may {g : Int} {F : List (List I4)} (h : MayBe g F) : mayI g F = 0 := by
  have key : ∀ (l : List I4) (n s k : Int), (∀ x ∈ l, wrongI g n s x < 0) → ∃ k', badL g n s k l = .ok k' := by
    intro l n s
    induction l with
    | nil => intro k _; exact ⟨k, rfl⟩
    | cons x l ih =>
      intro k hx
      rw [badL, if_neg (by have := hx x (by simp); omega)]
      exact ih _ (fun y hy => hx y (by simp [hy]))
  have key2 : ∀ (G : List (List I4)) (n k : Int), (∀ l ∈ G, ∀ x ∈ l, wrongI g n l.length x < 0) → ∃ k', badF g n k G = .ok k' := by
    intro G n
    induction G with
    | nil => intro k _; exact ⟨k, rfl⟩
    | cons l G ih =>
      intro k hx
      obtain ⟨k1, hk1⟩ := key l n l.length k (hx l (by simp))
      rw [badF, hk1]
      exact ih _ (fun y hy => hx y (by simp [hy]))
  obtain ⟨k', hk⟩ := key2 F F.length 1 h.x1
  unfold mayI
  have := h.n1; have := h.n2; have := h.g1; have := h.g2
  rw [if_neg (by omega), if_neg, hk]
  · rfl
  · rw [Bool.not_eq_false, List.all_eq_true]
    intro l hl
    have := h.l1 l hl
    unfold lenOk
    simpa using this


end Go.Proofs.YtmlobpapjfkbmaaGreat.C15

/- Package code: May. -/
namespace Go.Proofs.YtmlobpapjfkbmaaGreat.C15
open Go.RowKit
set_option linter.unusedVariables false
set_option maxRecDepth 20000
set_option linter.unusedSimpArgs false

set_option maxRecDepth 20000 in
set_option maxHeartbeats 6400000 in
theorem may_any {w : World} {g : Int} {fv : Value} {F : List (List I4)} (h : RdP w fv F) :
    Calls Tryz.prog 19 #[.agg #[.int .i64 g, fv]] w fun e w' => e = .returned (.int .i64 (mayI g F)) ∧ Ex w w' := by
  obtain ⟨fa, cap, rfl⟩ := h.val
  have HP := Lib.hid h
  clear h
  obtain ⟨r, hr⟩ : ∃ r, mayI g F = r := ⟨_, rfl⟩
  rw [hr]
  have HR := Lib.hid hr
  clear hr
  by_cases c1 : F.length < 1
  · have d1 : (F.length : Int) < 1 := by omega
    have e : r = 1 := by rw [← HR.out]; exact may_head (.inl c1)
    subst e
    clear c1
    go_enter Tryz.func19, Tryz.ntmps19
    go_wp2_with fail
    go_ret
    exact ⟨rfl, Ex.made _ _⟩
  have d1 : (1 : Int) ≤ (F.length : Int) := by omega
  by_cases c2 : 16 < F.length
  · have d2 : 16 < (F.length : Int) := by omega
    have e : r = 1 := by rw [← HR.out]; exact may_head (.inr (.inl c2))
    subst e
    clear c1 c2
    go_enter Tryz.func19, Tryz.ntmps19
    go_wp2_with fail
    go_ret
    exact ⟨rfl, Ex.made _ _⟩
  have d2 : (F.length : Int) ≤ 16 := by omega
  by_cases c3 : g < 0
  · have e : r = 1 := by rw [← HR.out]; exact may_head (.inr (.inr (.inl c3)))
    subst e
    clear c1 c2
    go_enter Tryz.func19, Tryz.ntmps19
    go_wp2_with fail
    go_ret
    exact ⟨rfl, Ex.made _ _⟩
  have d3 : 0 ≤ g := by omega
  by_cases c4 : 32 < g
  · have e : r = 1 := by rw [← HR.out]; exact may_head (.inr (.inr (.inr c4)))
    subst e
    clear c1 c2 c3
    go_enter Tryz.func19, Tryz.ntmps19
    go_wp2_with fail
    go_ret
    exact ⟨rfl, Ex.made _ _⟩
  have d4 : g ≤ 32 := by omega
  clear c1 c2 c3 c4
  go_enter Tryz.func19, Tryz.ntmps19
  go_upto_region 3 with fail
  have e0 := Ex.made w (.cells #[.int .i64 g, .slice fa F.length cap] 24)
  have b0 := Box.fresh w #[.int .i64 g, .slice fa F.length cap] 24
  have p0 := HP.out.ex e0
  obtain ⟨W, hW⟩ : ∃ W, W = w.alloc (.cells #[.int .i64 g, .slice fa F.length cap] 24) := ⟨_, rfl⟩
  rw [← hW] at e0 b0 p0 ⊢
  have E0 := Lib.hid e0
  have B0 := Lib.hid b0
  have P0 := Lib.hid p0
  clear hW e0 b0 p0
  have x0 : W.cell? ⟨w.heap.size, 0, none⟩ = some (.int .i64 g) := B0.out.cell 0
  have x1 : W.cell? ⟨w.heap.size, 1, none⟩ = some (.slice fa F.length cap) := B0.out.cell 1
  go_wp2_with fail
  go_loop [33] (fun iv => ∃ i : Nat, i ≤ F.length ∧ iv = .int .i64 (i : Int) ∧ ∀ (j : Nat) (l : List I4), j < i → F[j]? = some l → 1 ≤ l.length ∧ l.length ≤ 64) (fun iv => F.length - (intOf iv).toNat)
  case atStart => exact ⟨0, by omega, rfl, fun j _ hj => absurd hj (Nat.not_lt_zero j)⟩
  case round =>
    obtain ⟨i, hi, rfl, hok⟩ := hrel
    have OK := Lib.hid hok
    clear hok
    by_cases hlt : i < F.length
    · have hlt' : (i : Int) < (F.length : Int) := by omega
      obtain ⟨l, hll⟩ := get_some hlt
      obtain ⟨gb, ob, a', cap', rfl, -, hcap, hgb, hc, hl, hI⟩ := P0.out.at2 hll
      have HL := Lib.hid hlt
      have HLL := Lib.hid hll
      clear hlt hll hI
      by_cases s1 : l.length < 1
      · have s1' : (l.length : Int) < 1 := by omega
        have e : r = 1 := by rw [← HR.out]; exact may_len2 HLL.out (.inl s1)
        subst e
        clear s1
        go_wp2_with fail
        go_ret
        exact ⟨rfl, E0.out⟩
      by_cases s2 : 64 < l.length
      · have s1' : (1 : Int) ≤ (l.length : Int) := by omega
        have s2' : 64 < (l.length : Int) := by omega
        have e : r = 1 := by rw [← HR.out]; exact may_len2 HLL.out (.inr s2)
        subst e
        clear s1 s2
        go_wp2_with fail
        go_ret
        exact ⟨rfl, E0.out⟩
      have s1' : (1 : Int) ≤ (l.length : Int) := by omega
      have s2' : (l.length : Int) ≤ 64 := by omega
      have OK2 : Hid (∀ (j : Nat) (l : List I4), j < i + 1 → F[j]? = some l → 1 ≤ l.length ∧ l.length ≤ 64) := Lib.hid (by
        intro j l' h1 hj
        by_cases hji : j < i
        · exact OK.out j l' hji hj
        · obtain rfl : j = i := by omega
          rw [HLL.out] at hj
          cases hj
          omega)
      clear s1 s2
      go_wp2_with fail
      go_round
      case rel => exact ⟨i + 1, by have := HL.out; omega, by go_num, OK2.out⟩
      case measure => simp [intOf]; have := HL.out; omega
    · have hlt' : (F.length : Int) ≤ (i : Int) := by omega
      have SZ : Hid (∀ (j : Nat) (l : List I4), F[j]? = some l → 1 ≤ l.length ∧ l.length ≤ 64) := Lib.hid (fun j l hl => OK.out j l (by have := (get_is hl).1; omega) hl)
      have hb : mayI g F = outM (badF g F.length 1 F) := may_body2 (by omega) (by omega) d3 d4 SZ.out
      have HB := Lib.hid (HR.out.symm.trans hb)
      clear hlt hb OK
      go_wp2_with fail
      go_loopw [5, 49] (fun nv iv wr => ∃ (i : Nat) (k : Int), i ≤ F.length ∧ iv = .int .i64 (i : Int) ∧ nv = .int .i64 k ∧ 1 ≤ k ∧ k ≤ 1 + 64 * i ∧ Ex W wr ∧ badF g F.length k (F.drop i) = badF g F.length 1 F) (fun _ iv _ => F.length - (intOf iv).toNat)
      case atStart => exact ⟨0, 1, by omega, rfl, rfl, by omega, by omega, Ex.refl _, rfl⟩
      case round =>
        obtain ⟨i, k, hi, rfl, rfl, hk1, hk2, hx, hbd⟩ := hrel
        have X := Lib.hid hx
        have BD := Lib.hid hbd
        clear hx hbd x0 x1
        by_cases hlt : i < F.length
        · have hlt' : (i : Int) < (F.length : Int) := by omega
          obtain ⟨l, hll⟩ := get_some hlt
          obtain ⟨gb, ob, a', cap', rfl, -, hcap, hgb, hc, hl, hI⟩ := (P0.out.ex X.out).at2 hll
          have HL := Lib.hid hlt
          have HLL := Lib.hid hll
          have HI := Lib.hid hI
          obtain ⟨hs1, hs2⟩ := SZ.out i l hll
          have BD2 : Hid (thenF g F.length (F.drop (i + 1)) (badL g F.length l.length k l) = badF g F.length 1 F) := Lib.hid (by
            rw [← BD.out, badF_drop2 hll])
          clear hlt hll hI BD
          go_wp2_with fail
          clear hc
          go_loopw [5, 55] (fun nv jv wr2 => ∃ (j : Nat) (k2 : Int), j ≤ l.length ∧ jv = .int .i64 (j : Int) ∧ nv = .int .i64 k2 ∧ 1 ≤ k2 ∧ k2 ≤ k + j ∧ Ex wr wr2 ∧ badL g F.length l.length k2 (l.drop j) = badL g F.length l.length k l) (fun _ jv _ => l.length - (intOf jv).toNat)
          case atStart => exact ⟨0, k, by omega, rfl, rfl, hk1, by omega, Ex.refl _, rfl⟩
          case round =>
            obtain ⟨j, k2, hj, rfl, rfl, hk3, hk4, hx, hbd⟩ := hrel
            have X2 := Lib.hid hx
            have BL := Lib.hid hbd
            clear hx hbd
            by_cases hlt2 : j < l.length
            · have hlt2' : (j : Int) < (l.length : Int) := by omega
              obtain ⟨x, hx⟩ := get_some hlt2
              obtain ⟨ib, io, rfl, hib, z0, z1, z2, z3⟩ := (HI.out.ex X2.out).at2 hx
              have b1 := B0.out.ex (X.out.trans X2.out)
              have x0 : wr.cell? ⟨w.heap.size, 0, none⟩ = some (.int .i64 g) := b1.cell 0
              have x1 : wr.cell? ⟨w.heap.size, 1, none⟩ = some (.slice (some ⟨gb, ob, none⟩) F.length cap) := b1.cell 1
              have q1 : l.length ≤ cap' := hl
              have HX := Lib.hid hx
              have HJ2 := Lib.hid hlt2
              have B1 := Lib.hid b1
              have bl := b1.lt
              have W5 : Hid (∀ U, Calls Tryz.prog 49 #[.agg #[.int .i64 g, .int .i64 (F.length : Int), .int .i64 (l.length : Int)], .agg #[.int .i64 x.1, .int .i64 x.2.1, .int .i64 x.2.2.1, .int .i64 x.2.2.2]] U fun e w' => e = .returned (.int .i64 (wrongI g F.length l.length x)) ∧ Ex U w') := Lib.hid (fun U => wrong_any U x ⟨by omega, by omega, by omega⟩)
              have BL2 := Lib.hid (BL.out.symm.trans (badL_drop2 hx))
              clear hx b1 hlt2 BL
              obtain ⟨y0, y1, y2, y3⟩ := x
              dsimp only at z0 z1 z2 z3
              go_wp2_with fail
              refine (W5.out _).mono ?_
              rintro e w5 ⟨rfl, hx5⟩
              have X3 := Lib.hid (X2.out.trans ((Ex.made wr _).trans hx5))
              obtain ⟨rr, hrr⟩ : ∃ r, wrongI g F.length l.length (y0, y1, y2, y3) = r := ⟨_, rfl⟩
              rw [hrr]
              have HRR := Lib.hid hrr
              clear hx5 hrr x0 x1 z0 z1 z2 z3 bl
              by_cases hr1 : 0 ≤ rr
              · have e : r = k2 + 1 := by
                  rw [HB.out, ← BD2.out, BL2.out, HRR.out, if_pos hr1]
                  rfl
                have HE := Lib.hid e
                clear e
                go_wp2_with fail
                go_ret
                exact ⟨ret_int HE.out.symm, E0.out.trans (X.out.trans X3.out)⟩
              · have BL3 : Hid (badL g F.length l.length (k2 + 1) (l.drop (j + 1)) = badL g F.length l.length k l) := Lib.hid (by rw [BL2.out, HRR.out, if_neg hr1])
                have hr1' : rr < 0 := by omega
                clear hr1
                go_wp2_with fail
                go_roundw
                case rel => exact ⟨j + 1, k2 + 1, by have := HJ2.out; omega, by go_num, rfl, by omega, by omega, X3.out, BL3.out⟩
                case measure => simp [intOf]; have := HJ2.out; omega
            · have hj3 : (l.length : Int) ≤ (j : Int) := by omega
              have hfin : badF g F.length k2 (F.drop (i + 1)) = badF g F.length 1 F := by
                rw [← BD2.out, ← BL.out, show l.drop j = [] from List.drop_eq_nil_of_le (by omega)]
                rfl
              have HFIN := Lib.hid hfin
              clear hfin hlt2 BL
              go_wp2_with fail
              go_roundw
              case rel => exact ⟨i + 1, k2, by have := HL.out; omega, by go_num, rfl, by omega, by omega, X.out.trans X2.out, HFIN.out⟩
              case measure => simp [intOf]; have := HL.out; omega
        · have hlt' : (F.length : Int) ≤ (i : Int) := by omega
          have e : r = 0 := by
            rw [HB.out, ← BD.out, List.drop_eq_nil_of_le (by omega)]
            rfl
          subst e
          clear hlt
          go_wp2_with fail
          go_ret
          exact ⟨rfl, E0.out.trans X.out⟩

end Go.Proofs.YtmlobpapjfkbmaaGreat.C15

