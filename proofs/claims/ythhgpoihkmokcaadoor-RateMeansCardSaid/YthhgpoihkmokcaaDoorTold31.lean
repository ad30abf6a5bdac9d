/- told. -/
import Derived.Test.YthhgpoihkmokcaaDoorTextW31
import Derived.Test.YthhgpoihkmokcaaDoorMostP31
import Derived.Test.YthhgpoihkmokcaaDoorShelf
namespace Go.Proofs.YthhgpoihkmokcaaDoor
open Go.RowKit Ieee
set_option linter.unusedVariables false

/-- Floats in a block of their own. -/
theorem fs_new (w : World) (l : List Nat) (cs : Array Value) (hcs : cs = (cellsF l).toArray) (n : Nat) (hn : n = l.length) : Fs (w.alloc (.cells cs 23)) (some ⟨w.heap.size, 0, none⟩) n l := by
  subst hcs hn
  refine ⟨rfl, .inr ⟨w.heap.size, 0, rfl, by simp, fun i hi => ?_⟩⟩
  rw [Nat.zero_add, (Box.fresh w (cellsF l).toArray 23).cell i]
  simp [cellsF, hi]

theorem kv_key {x y : Nat} (hy : nanB y = false) (h : key x = key y) : nanB x = false ∧ kv x = kv y ∧ sg x = sg y := by
  have hx : nanB x = false := by
    cases h' : nanB x
    · rfl
    · have := key_nan2 h' h; rw [hy] at this; cases this
  refine ⟨hx, ?_⟩
  rw [key_is hx, key_is hy] at h
  unfold kv
  revert h
  cases sg x <;> cases sg y <;> simp [sgn] <;> omega
theorem ord_key_eq {x y : Nat} (hy : nanB y = false) (h : key x = key y) : FloatKind.f64.format.order x y = some .eq := by
  obtain ⟨h1, h2, -⟩ := kv_key hy h
  exact ord_eq h1 hy h2

theorem zero_any (w : World) : Calls Tryd.prog 25 #[] w fun e w' => e = .returned (.float .f64 0) ∧ w = w' := by
  go_enter Tryd.func25, Tryd.ntmps25
  go_wp2
  go_ret
  exact ⟨rfl, rfl⟩

theorem small_any (w : World) (m : Nat) (hm : m < 100) (n : Int) (hn : n = m) : Calls Tryd.prog 34 #[.int .i64 n, .int .i64 10] w fun e w' => e = .returned (.string ⟨(Lib.decDigits m).toArray⟩) ∧ Ex w w' := by
  subst hn
  refine (Tryd.strconv_FormatInt_10_small m hm w).mono ?_
  rintro e w' ⟨rfl, rfl⟩
  exact ⟨rfl, Ex.refl _⟩
theorem dec26 : Lib.decDigits 26 = [50, 54] := by
  rw [Lib.decDigits, dif_neg (by omega), Lib.decDigits, dif_pos (by omega)]
  rfl
theorem dec0 : Lib.decDigits 0 = [48] := by
  rw [Lib.decDigits, dif_pos (by omega)]
  rfl
theorem n26 : numT (pW 4598265291537823826) = 26 := by decide +kernel
theorem n0 : numT (pW 0) = 0 := by decide +kernel
theorem text26 (w : World) : Calls Tryd.prog 19 #[.float .f64 4598265291537823826] w fun e w' => e = .returned (.string ⟨#[50, 54, 37]⟩) ∧ Ex w w' := by
  refine text_any w 4598265291537823826 ⟨#[50, 54]⟩ (by decide) _ (by decide +kernel) (fun _ _ _ => ?_)
  have := small_any w 26 (by omega) (numT (pW 4598265291537823826)) n26
  rw [dec26] at this
  exact this
theorem text0 (w : World) : Calls Tryd.prog 19 #[.float .f64 0] w fun e w' => e = .returned (.string ⟨#[48, 37]⟩) ∧ Ex w w' := by
  refine text_any w 0 ⟨#[48]⟩ (by decide) _ (by decide +kernel) (fun _ _ _ => ?_)
  have := small_any w 0 (by omega) (numT (pW 0)) n0
  rw [dec0] at this
  exact this

theorem told_most (r : Nat) (hr : nanB r = true) : (mostF 2 [4607182418800017408, r, 4613937818241073152]).map key = [key 4613937818241073152, key 4607182418800017408] := by
  rw [most_ref]
  have k := key_nan hr
  have e1 : key 4607182418800017408 = 4607182418800017408 := by decide
  have e3 : key 4613937818241073152 = 4613937818241073152 := by decide
  simp [refL, insL, cutK, e1, e3, k]
theorem told_mean (r : Nat) (hr : nanB r = true) : meanW [4607182418800017408, r, 4611686018427387904] = 4609434218613702656 := by
  have e1 : nanB 4607182418800017408 = false := by decide
  have e2 : nanB 4611686018427387904 = false := by decide
  have e : sumW [4607182418800017408, r, 4611686018427387904] 3 = (addW (addW 0 4607182418800017408) 4611686018427387904, 2) := by
    simp [sumW, hr, e1, e2]
  unfold meanW
  show quoW (sumW [4607182418800017408, r, 4611686018427387904] 3).1 (floatOfInt .f64 ((sumW [4607182418800017408, r, 4611686018427387904] 3).2 : Int)) = _
  rw [e]
  decide +kernel
theorem told_least (r : Nat) (hr : nanB r = true) : leastW r 4611686018427387904 = 4611686018427387904 := by
  unfold leastW
  rw [if_neg]
  simp [hr]
  decide
theorem quo00 : quoW 0 0 = qn := by decide +kernel
theorem quo12 : quoW (floatOfInt .f64 1) (floatOfInt .f64 2) = 4602678819172646912 := by decide +kernel

set_option maxRecDepth 20000 in
set_option maxHeartbeats 6400000 in
theorem told_any (w : World) : Calls Tryd.prog 11 #[] w fun e w' => e = .returned (.bool true) ∧ Ex w w' := by
  obtain ⟨r, w1, h1, h2, h3⟩ := run_quo_any w 0 0
  rw [quo00] at h2
  have hr : nanB r = true := key_nan2 qn_nan h2.symm
  have E1 := Lib.hid h3
  have HR := Lib.hid hr
  clear h2 h3 hr
  go_enter Tryd.func11, Tryd.ntmps11
  go_wp2_with fail
  refine (zero_any w).mono ?_
  rintro e w' ⟨rfl, rfl⟩
  go_wp2_with fail
  refine (zero_any w).mono ?_
  rintro e w' ⟨rfl, rfl⟩
  go_wp2_with fail
  have F1 := fs_new w1 [4607182418800017408, r, 4613937818241073152] #[.float .f64 4607182418800017408, .float .f64 r, .float .f64 4613937818241073152] rfl 3 rfl
  have X1 := Ex.made w1 (.cells #[.float .f64 4607182418800017408, .float .f64 r, .float .f64 4613937818241073152] 23)
  refine (most_any 3 F1 (by omega) 2 2 rfl).mono ?_
  rintro e w2 ⟨v, rfl, hrow, hx⟩
  have E2 := Lib.hid (E1.out.trans (X1.trans hx))
  have hm := told_most r HR.out
  obtain ⟨a, b, hab⟩ : ∃ a b, mostF 2 [4607182418800017408, r, 4613937818241073152] = [a, b] := by
    have hl : (mostF 2 [4607182418800017408, r, 4613937818241073152]).length = 2 := by
      have := congrArg List.length hm
      simpa using this
    match mostF 2 [4607182418800017408, r, 4613937818241073152], hl with
    | [a, b], _ => exact ⟨a, b, rfl⟩
  rw [hab] at hrow hm
  simp only [List.map_cons, List.map_nil, List.cons.injEq, and_true] at hm
  obtain ⟨ka, kb⟩ := hm
  have o1 := ord_key_eq (by decide) ka
  have o2 := ord_key_eq (by decide) kb
  obtain ⟨va, vc, rfl, hF⟩ := hrow.fs
  obtain ⟨g, off, rfl, -, hc⟩ := hF.2.resolve_left (by simp)
  have c0 : w2.cell? ⟨g, off + 0, none⟩ = some (.float .f64 a) := hc 0 (by simp)
  have c1 : w2.cell? ⟨g, off + 1, none⟩ = some (.float .f64 b) := hc 1 (by simp)
  rw [Nat.add_zero] at c0
  rw [show [a, b].length = 2 from rfl]
  clear h1 F1 X1 hrow hx hab ka kb hF hc E1
  go_wp2_with fail
  refine (text26 w2).mono ?_
  rintro e w3 ⟨rfl, hx⟩
  have E3 := Lib.hid (E2.out.trans hx)
  clear hx c0 c1
  go_wp2_with fail
  refine (zero_any w3).mono ?_
  rintro e w' ⟨rfl, rfl⟩
  go_wp2_with fail
  refine (text0 w3).mono ?_
  rintro e w4 ⟨rfl, hx⟩
  have E4 := Lib.hid (E3.out.trans hx)
  clear hx
  go_wp2_with fail
  refine (share_any w4 1 2).mono ?_
  rintro e w5 ⟨⟨s, rfl, hs⟩, hx⟩
  rw [quo12] at hs
  have o3 := ord_key_eq (by decide) hs
  have E5 := Lib.hid (E4.out.trans hx)
  clear hx hs
  go_wp2_with fail
  have F1 := fs_new w5 [4607182418800017408, r, 4611686018427387904] #[.float .f64 4607182418800017408, .float .f64 r, .float .f64 4611686018427387904] rfl 3 rfl
  have X1 := Ex.made w5 (.cells #[.float .f64 4607182418800017408, .float .f64 r, .float .f64 4611686018427387904] 23)
  refine (mean_any 3 F1 (by omega)).mono ?_
  rintro e w6 ⟨⟨s2, rfl, hs⟩, hx⟩
  rw [told_mean r HR.out] at hs
  have o4 := ord_key_eq (by decide) hs
  have E6 := Lib.hid (E5.out.trans (X1.trans hx))
  clear hx hs F1 X1
  go_wp2_with fail
  refine (least_any w6 r 4611686018427387904 4611686018427387904 (told_least r HR.out)).mono ?_
  rintro e w' ⟨rfl, rfl⟩
  have o5 := ord_self (x := 4611686018427387904) (by decide)
  go_wp2_with fail
  go_ret
  exact ⟨rfl, E6.out⟩

end Go.Proofs.YthhgpoihkmokcaaDoor
