/- Floats' arithmetic, NaN too: the result's rank. Share, Mean, of the program and of the document. -/
import Derived.Test.YthhgpoihkmokcaaDoorRef31
import Derived.Test.YthhgpoihkmokcaaDoorMost31
namespace Go.Proofs.YthhgpoihkmokcaaDoor
open Go.RowKit Ieee
set_option linter.unusedVariables false

def qn : Nat := 9221120237041090561
theorem qn_nan : nanB qn = true := by decide
def addW (x y : Nat) : Nat := (floatBits .add .f64 x y).getD qn
def quoW (x y : Nat) : Nat := (floatBits .quo .f64 x y).getD qn

theorem cut_nan (x y t : Nat) : nanB ((Question.nanBits .f64 x y).cut t) = true := by
  unfold nanB rg Question.cut
  simp only [decide_eq_true_eq]
  have h1 : t % 2 = 0 ∨ t % 2 = 1 := by omega
  have h2 : t / 2 % (2 ^ 52 - 1) < 4503599627370495 := Nat.mod_lt _ (by decide)
  generalize t / 2 % (2 ^ 52 - 1) = c at *
  rcases h1 with h | h <;> rw [h] <;> omega

theorem run_add_any (w : World) (x y : Nat) : ∃ r w', (binOp .add 23 (.float .f64 x) (.float .f64 y)).run Tryd.prog w = .ok (.float .f64 r) w' ∧ key r = key (addW x y) ∧ Ex w w' := by
  unfold addW
  cases h : floatBits .add .f64 x y with
  | some r => exact ⟨r, w, run_float_arith w .add _ .f64 x y r h, rfl, Ex.refl w⟩
  | none =>
    refine ⟨(Question.nanBits .f64 x y).cut (w.tape w.drawn (Question.nanBits .f64 x y)), { w with drawn := w.drawn + 1 }, ?_, ?_, Ex.drawn w 1⟩
    · have h' : FloatKind.f64.format.add x y = none := h
      simp [binOp, Op.floatArith, h', Question.forced]
    · rw [key_nan (cut_nan _ _ _)]
      exact (key_nan qn_nan).symm
theorem run_quo_any (w : World) (x y : Nat) : ∃ r w', (binOp .quo 23 (.float .f64 x) (.float .f64 y)).run Tryd.prog w = .ok (.float .f64 r) w' ∧ key r = key (quoW x y) ∧ Ex w w' := by
  unfold quoW
  cases h : floatBits .quo .f64 x y with
  | some r => exact ⟨r, w, run_float_arith w .quo _ .f64 x y r h, rfl, Ex.refl w⟩
  | none =>
    refine ⟨(Question.nanBits .f64 x y).cut (w.tape w.drawn (Question.nanBits .f64 x y)), { w with drawn := w.drawn + 1 }, ?_, ?_, Ex.drawn w 1⟩
    · have h' : FloatKind.f64.format.div x y = none := h
      simp [binOp, Op.floatArith, h', Question.forced]
    · rw [key_nan (cut_nan _ _ _)]
      exact (key_nan qn_nan).symm

/-- What reads alike. -/
theorem read_key {x y : Nat} (hx : nanB x = false) (h : key x = key y) : double.read x = double.read y := by
  have hy : nanB y = false := by
    cases h' : nanB y
    · rfl
    · have := key_num hx; rw [key_nan h'] at h; omega
  have e : rg x = rg y ∧ sg x = sg y := by
    rw [key_is hx, key_is hy] at h
    revert h
    cases sg x <;> cases sg y <;> simp <;> omega
  obtain ⟨e1, e2⟩ := e
  unfold rg sg at *
  unfold Format.read
  simp only [db_sw, db_bin, db_inf, db_least]
  rw [e1, e2]
theorem key_nan2 {x y : Nat} (hx : nanB x = true) (h : key x = key y) : nanB y = true := by
  cases h' : nanB y
  · have := key_num h'; rw [key_nan hx] at h; omega
  · rfl
theorem add_nanl {x : Nat} (y : Nat) (hx : nanB x = true) : floatBits .add .f64 x y = none := by
  obtain ⟨s, f, h⟩ := read_nan hx
  show Format.add double x y = none
  unfold Format.add
  rw [h]; rfl
/-- The sum hangs on the ranks alone. -/
theorem add_key {x x' : Nat} (y : Nat) (h : key x = key x') : addW x y = addW x' y := by
  unfold addW
  cases hx : nanB x
  · have e : floatBits .add .f64 x y = floatBits .add .f64 x' y := by
      show Format.add double x y = Format.add double x' y
      unfold Format.add
      rw [read_key hx h]
    rw [e]
  · rw [add_nanl y hx, add_nanl y (key_nan2 hx h)]
theorem quo_key {x x' : Nat} (y : Nat) (h : key x = key x') : quoW x y = quoW x' y := by
  unfold quoW
  cases hx : nanB x
  · have e : floatBits .quo .f64 x y = floatBits .quo .f64 x' y := by
      show Format.div double x y = Format.div double x' y
      unfold Format.div
      rw [read_key hx h]
    rw [e]
  · obtain ⟨s, f, h1⟩ := read_nan hx
    obtain ⟨s', f', h2⟩ := read_nan (key_nan2 hx h)
    have e : floatBits .quo .f64 x y = floatBits .quo .f64 x' y := by
      show Format.div double x y = Format.div double x' y
      unfold Format.div
      rw [h1, h2]; rfl
    rw [e]

theorem share_any (w : World) (n all : Int) : Calls Tryd.prog 13 #[.int .i64 n, .int .i64 all] w fun e w' => (∃ r, e = .returned (.float .f64 r) ∧ key r = key (quoW (floatOfInt .f64 n) (floatOfInt .f64 all))) ∧ Ex w w' := by
  obtain ⟨r, w', h1, h2, h3⟩ := run_quo_any w (floatOfInt .f64 n) (floatOfInt .f64 all)
  go_enter Tryd.func13, Tryd.ntmps13
  go_wp2
  go_ret
  exact ⟨⟨r, rfl, h2⟩, h3⟩
theorem rshare_any (w : World) (n all : Int) : Calls Tryd.prog 14 #[.int .i64 n, .int .i64 all] w fun e w' => (∃ r, e = .returned (.float .f64 r) ∧ key r = key (quoW (floatOfInt .f64 n) (floatOfInt .f64 all))) ∧ Ex w w' := by
  obtain ⟨r, w', h1, h2, h3⟩ := run_quo_any w (floatOfInt .f64 n) (floatOfInt .f64 all)
  go_enter Tryd.func14, Tryd.ntmps14
  go_wp2
  go_ret
  exact ⟨⟨r, rfl, h2⟩, h3⟩

/-- The sum of the first i that are numbers, and how many. -/
def sumW (l : List Nat) (i : Nat) : Nat × Nat := (l.take i).foldl (fun s x => if nanB x then s else (addW s.1 x, s.2 + 1)) (0, 0)
theorem sumW_succ {l : List Nat} {i : Nat} (hi : i < l.length) : sumW l (i + 1) = if nanB (l.getD i 0) then sumW l i else (addW (sumW l i).1 (l.getD i 0), (sumW l i).2 + 1) := by
  unfold sumW
  rw [List.take_add_one, List.foldl_append]
  simp [hi]
theorem sumW_le (l : List Nat) : ∀ i, i ≤ l.length → (sumW l i).2 ≤ i
  | 0, _ => by simp [sumW]
  | i + 1, h => by
    have := sumW_le l i (by omega)
    rw [sumW_succ (by omega)]
    split <;> (try dsimp only) <;> omega
def meanW (l : List Nat) : Nat := quoW (sumW l l.length).1 (floatOfInt .f64 ((sumW l l.length).2 : Int))

theorem floats_nan_nan (w : World) : (callFunc 37 #[.int .u64 9221120237041090561]).run Tryd.prog w = .ok (.value (.float .f64 9221120237041090561)) w := by kernel_rfl
theorem nan_any (w : World) : Calls Tryd.prog 28 #[] w fun e w' => e = .returned (.float .f64 qn) ∧ w = w' := by
  have hb := floats_nan_nan
  go_enter Tryd.func28, Tryd.ntmps28
  go_wp2
  go_ret
  exact ⟨rfl, rfl⟩

theorem mean_none {l : List Nat} (h : (sumW l l.length).2 = 0) : key (meanW l) = key qn := by
  have e : ∀ i, i ≤ l.length → (sumW l i).2 = 0 → sumW l i = (0, 0) := by
    intro i
    induction i with
    | zero => intro _ _; simp [sumW]
    | succ i ih =>
      intro h1 h2
      rw [sumW_succ (by omega)] at h2 ⊢
      split at h2
      · rename_i hn
        rw [if_pos hn]
        exact ih (by omega) h2
      · simp at h2
  have e1 := e l.length (Nat.le_refl _) h
  unfold meanW
  rw [e1]
  have : quoW 0 (floatOfInt .f64 ((0 : Nat) : Int)) = qn := by decide +kernel
  exact congrArg key this

set_option maxRecDepth 20000 in
set_option maxHeartbeats 3200000 in
theorem mean_any {w : World} {a : Option Addr} {n : Nat} {l : List Nat} (cap : Nat) (h : Fs w a n l) (hn : n ≤ 200) :
    Calls Tryd.prog 15 #[.slice a n cap] w fun e w' => (∃ r, e = .returned (.float .f64 r) ∧ key r = key (meanW l)) ∧ Ex w w' := by
  have H := Lib.hid h
  have HL : Hid (l.length = n) := Lib.hid h.1
  clear h
  go_enter Tryd.func15, Tryd.ntmps15
  go_wp2_with fail
  go_loopw [3, 4, 9] (fun sv cv iv wr => ∃ (i s : Nat), i ≤ n ∧ iv = .int .i64 i ∧ sv = .float .f64 s ∧ key s = key (sumW l i).1 ∧ cv = .int .i64 ((sumW l i).2 : Int) ∧ Ex w wr) (fun _ _ iv _ => n - (intOf iv).toNat)
  case atStart => exact ⟨0, 0, by omega, rfl, rfl, by simp [sumW], by simp [sumW], Ex.refl w⟩
  case round =>
    obtain ⟨i, s, hi, rfl, rfl, hs, rfl, hx⟩ := hrel
    have HX := Lib.hid hx
    have HS := Lib.hid hs
    have hsl := sumW_le l i (by rw [HL.out]; omega)
    have hn' : (n : Int) ≤ 200 := by omega
    clear hs hx
    by_cases hlt : i < n
    · have q1 : (i : Int) < (n : Int) := by omega
      obtain ⟨x, hx⟩ : ∃ x, l.getD i 0 = x := ⟨_, rfl⟩
      obtain ⟨b, off, rfl, -, hc⟩ := (H.out.ex HX.out).2.resolve_left (by omega)
      have c0 : wr.cell? ⟨b, off + i, none⟩ = some (.float .f64 x) := hx ▸ hc i hlt
      have HT := Lib.hid (sumW_succ (l := l) (i := i) (by rw [HL.out]; omega))
      rw [hx] at HT
      clear hx hc
      obtain ⟨c, hc⟩ : ∃ c, (sumW l i).2 = c := ⟨_, rfl⟩
      rw [hc] at hsl ⊢
      have HC := Lib.hid hc
      clear hc
      cases hx : nanB x
      · have o1 := ord_self hx
        obtain ⟨r, w2, h1, h2, h3⟩ := run_add_any wr s x
        have H2 := Lib.hid h2
        have H3 := Lib.hid h3
        clear h2 h3
        go_wp2_with fail
        go_roundw
        case rel =>
          refine ⟨i + 1, r, by omega, by simp, rfl, ?_, ?_, HX.out.trans H3.out⟩
          · rw [HT.out, hx, H2.out]
            exact congrArg key (add_key x HS.out)
          · rw [HT.out, hx, ← HC.out]; rfl
        case measure => simp [intOf]; omega
      · have o1 := ord_nanl (y := x) hx
        go_wp2_with fail
        go_roundw
        case rel =>
          refine ⟨i + 1, s, by omega, by simp, rfl, ?_, ?_, HX.out⟩
          · rw [HT.out, hx]; exact HS.out
          · rw [HT.out, hx, ← HC.out]; rfl
        case measure => simp [intOf]; omega
    · have e : i = n := by omega
      subst e
      have q1 : ¬ ((i : Int) < (i : Int)) := by omega
      by_cases h0 : (sumW l i).2 = 0
      · have HM := Lib.hid (mean_none (l := l) (by rw [HL.out]; exact h0))
        rw [h0]
        clear h0
        go_wp2_with fail
        refine (nan_any wr).mono ?_
        rintro e w' ⟨rfl, rfl⟩
        go_wp2_with fail
        go_ret
        exact ⟨⟨_, rfl, HM.out.symm⟩, HX.out⟩
      · have q2 : (((sumW l i).2 : Int) == 0) = false := by simp; omega
        have HM : Hid (meanW l = quoW s (floatOfInt .f64 ((sumW l i).2 : Int))) := Lib.hid (by unfold meanW; rw [HL.out]; exact quo_key _ HS.out.symm)
        obtain ⟨c, hc⟩ : ∃ c, (sumW l i).2 = c := ⟨_, rfl⟩
        rw [hc] at q2 HM ⊢
        obtain ⟨r, w2, h1, h2, h3⟩ := run_quo_any wr s (floatOfInt .f64 (c : Int))
        have H2 := Lib.hid h2
        have H3 := Lib.hid h3
        clear h2 h3 h0 hc
        go_wp2_with fail
        go_ret
        exact ⟨⟨r, rfl, H2.out.trans (congrArg key HM.out.symm)⟩, HX.out.trans H3.out⟩

end Go.Proofs.YthhgpoihkmokcaaDoor
