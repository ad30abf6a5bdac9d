/- ModelNobody: a model that is none does nothing; goroutines that there are not do nothing. -/
import Derived.Test.YtmlobpapjfkbmaaK13
namespace Go.Proofs.Ytmlobpapjfkbmaa
open Go.RowKit
set_option linter.unusedVariables false
set_option maxRecDepth 20000
set_option linter.unusedSimpArgs false

theorem gs_nil (w : World) : Calls Try.prog 26 #[.pointer none] w fun e w' => e = .returned (.int .i64 0) ∧ w = w' := by
  go_enter Try.func26, Try.ntmps26
  go_wp2_with fail
  go_ret
  exact ⟨rfl, rfl⟩
theorem ids_nil (w : World) : Calls Try.prog 20 #[.pointer none] w fun e w' => e = .returned (.int .i64 0) ∧ w = w' := by
  go_enter Try.func20, Try.ntmps20
  go_wp2_with fail
  go_ret
  exact ⟨rfl, rfl⟩
theorem reach_nil (w : World) : Calls Try.prog 19 #[.pointer none] w fun e w' => e = .returned (.slice none 0 0) ∧ w = w' := by
  go_enter Try.func19, Try.ntmps19
  go_wp2_with fail
  go_ret
  exact ⟨rfl, rfl⟩
theorem stuck_nil (w : World) : Calls Try.prog 24 #[.pointer none] w fun e w' => e = .returned (.bool false) ∧ w = w' := by
  go_enter Try.func24, Try.ntmps24
  go_wp2_with fail
  go_ret
  exact ⟨rfl, rfl⟩
def noInst : Value := .agg #[.int .i64 0, .int .i64 0, .int .i64 0, .int .i64 0]
/-- Next, where nobody goes on. -/
theorem next_not {w : World} {mb : Nat} (g : Int) (s : Nat) (hs : s = 0 ∨ s = 5) (K0 : ∀ W, Ex w W → Calls Try.prog 18 #[.pointer (some ⟨mb, 0, none⟩), .int .i64 g] W fun e w' => e = .returned (.int .i64 (s : Nat)) ∧ W = w') :
    Calls Try.prog 27 #[.pointer (some ⟨mb, 0, none⟩), .int .i64 g] w fun e w' => e = .returned (.tuple #[noInst, .bool false]) ∧ Ex w w' := by
  have x0 := Ex.made w (.cells #[.int .i64 0, .int .i64 0, .int .i64 0, .int .i64 0] 40)
  have b0 := Box.fresh w #[.int .i64 0, .int .i64 0, .int .i64 0, .int .i64 0] 40
  have K := Lib.hid (K0 _ x0)
  have X0 := Lib.hid x0
  have B0 := Lib.hid b0
  clear x0 b0 K0
  have done : ∀ Z : World, Box Z w.heap.size #[.int .i64 0, .int .i64 0, .int .i64 0, .int .i64 0] 40 → Z.cell? ⟨w.heap.size, 0, none⟩ = some (.int .i64 0) ∧ Z.cell? ⟨w.heap.size, 1, none⟩ = some (.int .i64 0) ∧ Z.cell? ⟨w.heap.size, 2, none⟩ = some (.int .i64 0) ∧ Z.cell? ⟨w.heap.size, 3, none⟩ = some (.int .i64 0) :=
    fun Z h => ⟨h.cell 0, h.cell 1, h.cell 2, h.cell 3⟩
  have D := Lib.hid (done _ B0.out)
  clear done
  rcases hs with rfl | rfl
  all_goals
    go_enter Try.func27, Try.ntmps27
    go_wp2_with fail
    refine K.out.mono ?_
    rintro e w' ⟨rfl, rfl⟩
    go_wp2_with fail
    obtain ⟨q0, q1, q2, q3⟩ := D.out
    generalize w.alloc (.cells #[.int .i64 0, .int .i64 0, .int .i64 0, .int .i64 0] 40) = Z at *
    refine bodyPost_ret (v := .tuple #[.agg #[.int .i64 0, .int .i64 0, .int .i64 0, .int .i64 0], .bool false]) ?_ rfl ⟨rfl, X0.out⟩
    simp [results, Try.results27, go_sem, q0, q1, q2, q3]

theorem mo_nonext {B : Nat} {K : Nat → Prop} {w : World} {mb : Nat} {F : Fns} {gn n : Nat} {m : MS} (h : Mo B K w mb F gn n m) {g : Nat} (hg : m.gs.length ≤ g) :
    Calls Try.prog 27 #[.pointer (some ⟨mb, 0, none⟩), .int .i64 (g : Nat)] w fun e w' => e = .returned (.tuple #[noInst, .bool false]) ∧ Ex w w' :=
  next_not g 0 (.inl rfl) (fun W x => mo_state (h.ex x) g 0 (by simp [show m.st.length ≤ g by have := h.inv.st; omega]))

/-- A program of one function, just laid. -/
theorem prog1 (w : World) (l : List C15.I4) (cs : Array Value) (hcs : cs = (C15.cells4 l).toArray) (n : Nat) (hn : l.length = n) :
    C15.RdP ((w.alloc (.cells cs 40)).alloc (.cells #[.slice (some ⟨w.heap.size, 0, none⟩) n n] 42)) (.slice (some ⟨w.heap.size + 1, 0, none⟩) 1 1) [l] ∧
    Ex w ((w.alloc (.cells cs 40)).alloc (.cells #[.slice (some ⟨w.heap.size, 0, none⟩) n n] 42)) := by
  subst hcs hn
  have b1 : Box ((w.alloc (.cells (C15.cells4 l).toArray 40)).alloc (.cells #[.slice (some ⟨w.heap.size, 0, none⟩) l.length l.length] 42)) w.heap.size (C15.cells4 l).toArray 40 := (Box.fresh w _ _).ex (Ex.made _ _)
  have b2 : Box ((w.alloc (.cells (C15.cells4 l).toArray 40)).alloc (.cells #[.slice (some ⟨w.heap.size, 0, none⟩) l.length l.length] 42)) (w.heap.size + 1) #[.slice (some ⟨w.heap.size, 0, none⟩) l.length l.length] 42 := by
    have := Box.fresh (w.alloc (.cells (C15.cells4 l).toArray 40)) #[.slice (some ⟨w.heap.size, 0, none⟩) l.length l.length] 42
    simpa using this
  refine ⟨rdP_box (F := [l]) (cap := 1) (lv := fun _ => .slice (some ⟨w.heap.size, 0, none⟩) l.length l.length) b2 (by simp) (fun i hi => ?_), (Ex.made _ _).trans (Ex.made _ _)⟩
  obtain rfl : i = 0 := by have : i < 1 := hi; omega
  exact rdI_box b1 (Nat.le_refl _)

def Fnob : Fns := [[(0, 0, 0, 0)]]
theorem may_nob : C15.mayI ((0 : Nat) : Int) Fnob = 0 := by decide


set_option maxRecDepth 10000 in
set_option maxHeartbeats 6400000 in
theorem nobody_walk (g : Int) (j : Nat) (w : World) (hj : (IntKind.u64.wrap g).tmod 1000 = (j : Int)) (hj2 : j < 1000) : Calls Try.prog 9 #[.int .i64 g] w fun e w' => e = .returned (.bool true) ∧ Below w.heap.size w w' := by
  have e0 : IntKind.i64.wrap (j : Int) = (j : Int) := by rw [IntKind.wrap_i64]; omega
  have e1 : IntKind.i64.wrap (1 + (j : Int)) = ((j + 1 : Nat) : Int) := by rw [IntKind.wrap_i64]; omega
  obtain ⟨k, hk⟩ : ∃ k, j + 1 = k := ⟨_, rfl⟩
  rw [hk] at e1
  have hk1 : 1 ≤ k ∧ k ≤ 1000 := by omega
  have e2 : IntKind.i64.wrap (-(k : Int)) = -(k : Int) := by rw [IntKind.wrap_i64]; omega
  have HJ := Lib.hid hj
  go_enter Try.func9, Try.ntmps9
  go_wp2_with fail
  refine (do_nil w g).mono ?_
  rintro e w1 ⟨rfl, x1⟩
  have HX1 := Lib.hid x1
  clear x1
  unfold noCm
  go_wp2_with fail
  have x2 := Ex.made w1 (.cells #[.int .i64 0, .int .i64 0, .int .i64 0, .int .i64 0, .int .i64 0, .bool false] 34)
  have hs2 : (w1.alloc (.cells #[.int .i64 0, .int .i64 0, .int .i64 0, .int .i64 0, .int .i64 0, .bool false] 34)).heap.size = w1.heap.size + 1 := by simp
  generalize w1.alloc (.cells #[.int .i64 0, .int .i64 0, .int .i64 0, .int .i64 0, .int .i64 0, .bool false] 34) = W2 at *
  rw [← hs2]
  obtain ⟨hp, x3⟩ := prog1 W2 [(0, 0, 0, 0)] #[.int .i64 0, .int .i64 0, .int .i64 0, .int .i64 0] rfl 1 rfl
  generalize ((W2.alloc (.cells #[.int .i64 0, .int .i64 0, .int .i64 0, .int .i64 0] 40)).alloc (.cells #[.slice (some ⟨W2.heap.size, 0, none⟩) 1 1] 42)) = W3 at *
  refine (build_any hp (Ex.refl _) may_nob).mono ?_
  rintro e w4 ⟨mb, rfl, h4, x4⟩
  have HM4 := Lib.hid h4
  have HX4 := Lib.hid (((HX1.out.trans x2).trans x3).trans x4)
  clear h4 x4 x3 x2 HX1 hp hs2
  have hgs : (m0 0).gs.length = 1 := rfl
  go_wp2_with fail
  refine (mo_nobody HM4.out (g := (k : Int)) (.inr (by rw [hgs]; omega))).mono ?_
  rintro e w5 ⟨rfl, x5⟩
  have HM5 := Lib.hid (HM4.out.ex x5)
  have HX5 := Lib.hid (HX4.out.trans x5)
  clear HM4 HX4 x5
  unfold noCm
  go_wp2_with fail
  have x6 := Ex.made w5 (.cells #[.int .i64 0, .int .i64 0, .int .i64 0, .int .i64 0, .int .i64 0, .bool false] 34)
  generalize w5.alloc (.cells #[.int .i64 0, .int .i64 0, .int .i64 0, .int .i64 0, .int .i64 0, .bool false] 34) = W6 at *
  have HM6 := Lib.hid (HM5.out.ex x6)
  have HX6 := Lib.hid (HX5.out.trans x6)
  clear HM5 HX5 x6
  refine (mo_nonext HM6.out (g := k) (by rw [hgs]; omega)).mono ?_
  rintro e w7 ⟨rfl, x7⟩
  have HM7 := Lib.hid (HM6.out.ex x7)
  have HX7 := Lib.hid (HX6.out.trans x7)
  clear HM6 HX6 x7
  unfold noInst
  go_wp2_with fail
  have x8 := Ex.made w7 (.cells #[.int .i64 0, .int .i64 0, .int .i64 0, .int .i64 0] 40)
  generalize w7.alloc (.cells #[.int .i64 0, .int .i64 0, .int .i64 0, .int .i64 0] 40) = W8 at *
  have HM8 := Lib.hid (HM7.out.ex x8)
  have HX8 := Lib.hid (HX7.out.trans x8)
  clear HM7 HX7 x8
  refine (mo_nobody HM8.out (g := -(k : Int)) (.inl (by omega))).mono ?_
  rintro e w9 ⟨rfl, x9⟩
  have HM9 := Lib.hid (HM8.out.ex x9)
  have HX9 := Lib.hid (HX8.out.trans x9)
  clear HM8 HX8 x9
  unfold noCm
  go_wp2_with fail
  have x10 := Ex.made w9 (.cells #[.int .i64 0, .int .i64 0, .int .i64 0, .int .i64 0, .int .i64 0, .bool false] 34)
  generalize w9.alloc (.cells #[.int .i64 0, .int .i64 0, .int .i64 0, .int .i64 0, .int .i64 0, .bool false] 34) = W10 at *
  have HM10 := Lib.hid (HM9.out.ex x10)
  have HX10 := Lib.hid (HX9.out.trans x10)
  clear HM9 HX9 x10
  refine (told_any _).mono ?_
  rintro e w11 ⟨rfl, x11⟩
  have HM11 := Lib.hid (HM10.out.ex x11)
  have HX11 := Lib.hid (HX10.out.trans x11)
  clear HM10 HX10 x11
  go_wp2_with fail
  refine (gs_nil _).mono ?_
  rintro e w12 ⟨rfl, rfl⟩
  go_wp2_with fail
  refine (ids_nil _).mono ?_
  rintro e w12 ⟨rfl, rfl⟩
  go_wp2_with fail
  refine (reach_nil _).mono ?_
  rintro e w12 ⟨rfl, rfl⟩
  go_wp2_with fail
  refine (stuck_nil _).mono ?_
  rintro e w12 ⟨rfl, rfl⟩
  go_wp2_with fail
  refine (mo_state HM11.out k 0 (by
    have hl : (m0 0).st.length ≤ k := by show 1 ≤ k; omega
    simp [hl])).mono ?_
  rintro e w12 ⟨rfl, rfl⟩
  go_wp2_with fail
  refine (mo_nostack HM11.out (k : Int) (.inr ⟨by omega, by rw [hgs]; omega⟩)).mono ?_
  rintro e w12 ⟨rfl, rfl⟩
  go_wp2_with fail
  refine (mo_noslots HM11.out (k : Int) (.inr ⟨by omega, by rw [show (m0 0).slots.length = 1 from rfl]; omega⟩)).mono ?_
  rintro e w12 ⟨rfl, rfl⟩
  go_wp2_with fail
  go_ret
  exact ⟨rfl, HX11.out⟩

theorem walk_ModelNobody (a0 : Int) (w0 : (Lit.int .i64 a0).wf = true) (w : World) :
    Calls Try.prog 9 #[.int .i64 a0] w fun e w' => e = .returned (.bool true) ∧ Below w.heap.size w w' := by
  have h0 := Int.tmod_nonneg 1000 (show 0 ≤ IntKind.u64.wrap a0 by simp [IntKind.wrap, IntKind.bits, IntKind.signed]; omega)
  have h1 := Int.tmod_lt_of_pos (IntKind.u64.wrap a0) (show (0 : Int) < 1000 by omega)
  exact nobody_walk a0 ((IntKind.u64.wrap a0).tmod 1000).toNat w (by omega) (by omega)

end Go.Proofs.Ytmlobpapjfkbmaa
