/- Package code: parts. -/
import Derived.Test.YtmajnjbjoagihaaFits15
import Derived.Laws.Tables
import Derived.Laws.CopyOwn
namespace Go.Proofs.Ytmajnjbjoagihaa
open Go.RowKit
set_option linter.unusedVariables false

/-- What may stand in the three parts of each. -/
def kdT : List Nat := [0,0,0, 2,1,0, 2,2,1, 2,1,2, 2,2,0, 2,0,0, 2,3,0, 3,2,0, 4,2,0, 0,0,0, 0,1,1, 6,0,0, 6,0,0, 2,2,0, 5,0,0, 2,2,5, 1,1,0, 5,0,0]
def kd (op k : Nat) : Nat := kdT.getD (op * 3 + k) 0
def partsV : Array Value := (kdT.map fun n : Nat => Value.int .i64 (n : Int)).toArray

def partsZ : Array Value := #[.int .i64 0, .int .i64 0, .int .i64 0, .int .i64 0, .int .i64 0, .int .i64 0, .int .i64 0, .int .i64 0, .int .i64 0, .int .i64 0, .int .i64 0, .int .i64 0, .int .i64 0, .int .i64 0, .int .i64 0, .int .i64 0, .int .i64 0, .int .i64 0, .int .i64 0, .int .i64 0, .int .i64 0, .int .i64 0, .int .i64 0, .int .i64 0, .int .i64 0, .int .i64 0, .int .i64 0, .int .i64 0, .int .i64 0, .int .i64 0, .int .i64 0, .int .i64 0, .int .i64 0, .int .i64 0, .int .i64 0, .int .i64 0, .int .i64 0, .int .i64 0, .int .i64 0, .int .i64 0, .int .i64 0, .int .i64 0, .int .i64 0, .int .i64 0, .int .i64 0, .int .i64 0, .int .i64 0, .int .i64 0, .int .i64 0, .int .i64 0, .int .i64 0, .int .i64 0, .int .i64 0, .int .i64 0]
theorem below_row {w w1 : World} {B g : Nat} (h : Below B w w1) (hg : B ≤ g) (ds : Array Value) : Below B w (w1.setRow g ds) := below_setRow h hg ds

set_option maxRecDepth 20000 in
set_option maxHeartbeats 3200000 in
theorem parts_any (w : World) : Calls Try.prog 26 #[] w fun e w' => e = .returned (.agg partsV) ∧ Ex w w' := by
  go_enter Try.func26, Try.ntmps26
  go_upto_region 1 with fail
  have e0 := Ex.made w (.cells partsZ 63)
  have b1 := Box.fresh w partsZ 63
  obtain ⟨W, hW⟩ : ∃ W, W = w.alloc (.cells partsZ 63) := ⟨_, rfl⟩
  rw [← hW] at e0 b1
  change Code.wp _ _ _ _ (w.alloc (.cells partsZ 63))
  rw [← hW]
  have E0 := Lib.hid e0
  have B1 := Lib.hid b1
  clear hW e0 b1
  have B2 := Lib.hid (Box.row (ds := partsV) B1.out)
  have E2 : Hid (Ex w (W.setRow w.heap.size partsV)) := Lib.hid (below_row E0.out (Nat.le_refl w.heap.size) partsV)
  refine wp_region_list ?_
  go_wp2_with (refine wpList_store_row rfl 63 (.tmp 0) (.tmp 19) rfl w.heap.size partsV rfl rfl 63 partsZ B1.out (by kernel_rfl) rfl (by kernel_rfl) ?_)
  obtain ⟨U, hU⟩ : ∃ U, U = W.setRow w.heap.size partsV := ⟨_, rfl⟩
  rw [← hU] at B2 E2 ⊢
  clear hU
  go_wp2
  exact bodyPost_ret (results_cell_row rfl _ _ w.heap.size 63 partsV (0, 0) _ rfl B2.out Try.underlying63 rfl (by kernel_rfl)) rfl ⟨rfl, E2.out⟩

end Go.Proofs.Ytmajnjbjoagihaa
