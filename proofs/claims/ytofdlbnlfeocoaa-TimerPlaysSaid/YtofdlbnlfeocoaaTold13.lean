/- told. -/
import Derived.Test.YtofdlbnlfeocoaaNobody13
namespace Go.Proofs.Ytofdlbnlfeocoaa
open Go.RowKit
set_option linter.unusedVariables false

def l1 : List (Int × Int × Int) := [(5, 1, 1)]
def l2 : List (Int × Int × Int) := [(3, 2, 2), (5, 1, 1)]
def l3 : List (Int × Int × Int) := [(3, 2, 2), (5, 1, 1), (3, 3, 3)]
theorem l1_is : upL 1 ([] ++ [(5, 1, 0 + 1)]) 0 = l1 := by decide
theorem l2_is : upL 2 (l1 ++ [(3, 2, 0 + 1 + 1)]) 1 = l2 := by decide
theorem l3_is : upL 3 (l2 ++ [(3, 3, 0 + 1 + 1 + 1)]) 2 = l3 := by decide
theorem due_is : dueL (l3.length + 1) 4 l3 = ([2, 3], [(5, 1, 1)]) := by decide

set_option maxRecDepth 20000 in
set_option maxHeartbeats 3200000 in
theorem told_any (w : World) : Calls Try.prog 8 #[] w fun e w' => e = .returned (.bool true) ∧ Ex w w' := by
  go_enter Try.func8, Try.ntmps8
  go_wp2_with fail
  refine (new_any w).mono ?_
  rintro e w1 ⟨rfl, h1, c1⟩
  have C1 := Lib.hid c1
  have H1 := Lib.hid h1
  clear h1 c1
  go_wp2_with fail
  refine (tadd_any H1.out 5 1 0 rfl (by omega) (by omega)).mono ?_
  rintro e w2 ⟨rfl, ⟨g2, cap2, h2, hg2, -⟩, c2⟩
  rw [l1_is] at h2
  have C2 := Lib.hid (H1.out.fb c2)
  have H2 := Lib.hid h2
  clear h2 c2 hg2
  go_wp2_with fail
  refine (tadd_any H2.out 3 2 1 rfl (by omega) (by omega)).mono ?_
  rintro e w3 ⟨rfl, ⟨g3, cap3, h3, hg3, -⟩, c3⟩
  rw [l2_is] at h3
  have C3 := Lib.hid (H2.out.fb c3)
  have H3 := Lib.hid h3
  clear h3 c3 hg3
  go_wp2_with fail
  refine (tadd_any H3.out 3 3 2 rfl (by omega) (by omega)).mono ?_
  rintro e w4 ⟨rfl, ⟨g4, cap4, h4, hg4, -⟩, c4⟩
  rw [l3_is] at h4
  have C4 := Lib.hid (H3.out.fb c4)
  have H4 := Lib.hid h4
  have G4 := Lib.hid hg4
  clear h4 c4 hg4
  go_wp2_with fail
  refine (tnext_any H4.out rfl 3 rfl).mono ?_
  rintro e w' ⟨rfl, rfl⟩
  go_wp2_with fail
  refine (due_any H4.out (fun g hg => by cases hg; exact G4.out) 4 (by decide)).mono ?_
  rintro e w5 ⟨u, rfl, ⟨⟨u2, h5, hg5, -⟩, hr, c5'⟩⟩
  have c5 := H4.out.fb c5'
  clear c5'
  rw [due_is] at h5 hr
  have H5 := Lib.hid h5
  have R5 := Lib.hid hr
  have C5 := Lib.hid c5
  clear h5 hr c5 hg5
  obtain ⟨r, cu, rfl⟩ : ∃ r cu, u = .slice (some ⟨r, 0, none⟩) 2 cu := by
    rcases row_shape R5.out with ⟨-, h2, -⟩ | ⟨r, cu, h1, -⟩
    · simp at h2
    · exact ⟨r, cu, h1⟩
  obtain ⟨a2, ca2, rfl⟩ : ∃ a c, u2 = .slice a 1 c := by
    rcases row_shape H5.out.row with ⟨-, h2, -⟩ | ⟨r, cu, h1, -⟩
    · simp at h2
    · exact ⟨_, cu, h1⟩
  have x0 : w5.cell? ⟨r, 0, none⟩ = some (.int .i64 2) := World.ownsRow.cellAt R5.out 0 (by decide)
  have x1 : w5.cell? ⟨r, 1, none⟩ = some (.int .i64 3) := World.ownsRow.cellAt R5.out 1 (by decide)
  have X0 := Lib.hid x0
  have X1 := Lib.hid x1
  clear x0 x1
  go_wp2_with fail
  refine (ints_two _ r w5.heap.size cu 2 2 3 (cell_later (Ex.made w5 _) X0.out) (cell_later (Ex.made w5 _) X1.out) (by simp) (by simp)).mono ?_
  rintro e w6 ⟨rfl, h6⟩
  have E6 := Lib.hid (Ex.trans (Ex.made w5 _) h6)
  clear h6
  go_wp2_with fail
  refine (tlen_any (H5.out.ex E6.out)).mono ?_
  rintro e w' ⟨rfl, rfl⟩
  go_wp2_with fail
  go_ret
  have k : ∀ i : Nat, FB (w.heap.size + 1) w.heap.size i → w.heap.size ≤ i := by
    intro i hi
    rcases hi with rfl | hi
    · omega
    · omega
  have hc := (((C2.out.trans C3.out (fun _ _ h => h)).trans C4.out (fun _ _ h => h)).trans C5.out (fun _ _ h => h)).ex E6.out
  have hb := hc.below (B := w.heap.size) C1.out.size (fun i hi => k i hi)
  exact ⟨rfl, Below.trans C1.out hb⟩

end Go.Proofs.Ytofdlbnlfeocoaa
