/- Package conf: configurations; the law's own few examples. -/
import Derived.Test.YtlandgfmdhcjmaaConf2
import Derived.Test.YtlandgfmdhcjmaaOwn
namespace Go.Proofs.Ytlandgfmdhcjmaa
open Ieee Go.RowKit
set_option linter.unusedVariables false

theorem Dn.ex {w w' : World} (h : Dn w w') : Ex w w' := by
  obtain ⟨n, rfl⟩ := h
  exact Ex.drawn w n

def mayB (ps words : Int) : Bool := decide (1 ≤ ps ∧ ps ≤ 64 ∧ 256 ≤ words ∧ words ≤ 16777216 ∧ words % 64 = 0)

def May2 (f : FuncId) : Prop := ∀ (ps words : Int) (x y : Nat) (b : Bool) (w : World), mayB ps words = b →
  Calls Try.prog f #[.agg #[.int .i64 ps, .int .i64 words, .float .f64 x, .float .f64 y]] w fun e w' => e = .returned (.bool b) ∧ Ex w w'

theorem mayB_cases {ps words : Int} {b : Bool} (h : mayB ps words = b) : (b = true ∧ 1 ≤ ps ∧ ps ≤ 64 ∧ 256 ≤ words ∧ words ≤ 16777216 ∧ words % 64 = 0) ∨ (b = false ∧ ps < 1) ∨ (b = false ∧ 1 ≤ ps ∧ 64 < ps) ∨ (b = false ∧ 1 ≤ ps ∧ ps ≤ 64 ∧ words < 256) ∨
    (b = false ∧ 1 ≤ ps ∧ ps ≤ 64 ∧ 256 ≤ words ∧ 16777216 < words) ∨ (b = false ∧ 1 ≤ ps ∧ ps ≤ 64 ∧ 256 ≤ words ∧ words ≤ 16777216 ∧ (words % 64 == 0) = false) := by
  unfold mayB at h
  by_cases c : 1 ≤ ps ∧ ps ≤ 64 ∧ 256 ≤ words ∧ words ≤ 16777216 ∧ words % 64 = 0
  · rw [decide_eq_true c] at h
    exact .inl ⟨h.symm, c⟩
  · rw [decide_eq_false c] at h
    subst h
    by_cases h1 : 1 ≤ ps
    · by_cases h2 : ps ≤ 64
      · by_cases h3 : 256 ≤ words
        · by_cases h4 : words ≤ 16777216
          · exact .inr (.inr (.inr (.inr (.inr ⟨rfl, h1, h2, h3, h4, by simpa using fun h5 => c ⟨h1, h2, h3, h4, h5⟩⟩))))
          · exact .inr (.inr (.inr (.inr (.inl ⟨rfl, h1, h2, h3, by omega⟩))))
        · exact .inr (.inr (.inr (.inl ⟨rfl, h1, h2, by omega⟩)))
      · exact .inr (.inr (.inl ⟨rfl, h1, by omega⟩))
    · exact .inr (.inl ⟨rfl, by omega⟩)

set_option maxHeartbeats 800000 in
theorem may_prog : May2 10 := by
  intro ps words x y b w h
  rcases mayB_cases h with ⟨rfl, h1, h2, h3, h4, h5⟩ | ⟨rfl, h1⟩ | ⟨rfl, h1, h2⟩ | ⟨rfl, h1, h2, h3⟩ | ⟨rfl, h1, h2, h3, h4⟩ | ⟨rfl, h1, h2, h3, h4, h5⟩
  all_goals
    clear h
    go_enter Try.func10, Try.ntmps10
    go_wp2
    go_ret
    exact ⟨rfl, Ex.made _ _⟩
set_option maxHeartbeats 800000 in
theorem may_ref : May2 14 := by
  intro ps words x y b w h
  rcases mayB_cases h with ⟨rfl, h1, h2, h3, h4, h5⟩ | ⟨rfl, h1⟩ | ⟨rfl, h1, h2⟩ | ⟨rfl, h1, h2, h3⟩ | ⟨rfl, h1, h2, h3, h4⟩ | ⟨rfl, h1, h2, h3, h4, h5⟩
  all_goals
    clear h
    go_enter Try.func14, Try.ntmps14
    go_wp2
    go_ret
    exact ⟨rfl, Ex.made _ _⟩

/-- Percent of a known value. -/
theorem kpct {x : Nat} {V n : Int} (h : HasV x V) (h0 : 0 ≤ V) (hn : min V (10000 * T) / T = n) (w : World) :
    Calls Try.prog 7 #[.float .f64 x] w fun e w' => e = .returned (.tuple #[.int .i64 n, .bool true]) ∧ w = w' := by
  obtain ⟨n', b, hI, -, -, hc, -⟩ := pct_both x
  have o0 : FloatKind.f64.format.order x x = some .eq := (ov h h).trans (by rw [Int.compare_eq_eq.2 rfl])
  rcases hI with ⟨k, -, -⟩ | ⟨-, -, -, k⟩ | ⟨V', k, -, rfl, rfl⟩
  · rw [o0] at k; cases k
  · have := k V h; omega
  · rw [val_one k h, hn] at hc; exact hc w
theorem kpct_neg {x : Nat} {V : Int} (h : HasV x V) (h0 : V < 0) (w : World) :
    Calls Try.prog 7 #[.float .f64 x] w fun e w' => e = .returned (.tuple #[.int .i64 0, .bool false]) ∧ w = w' := by
  obtain ⟨n', b, hI, -, -, hc, -⟩ := pct_both x
  have o0 : FloatKind.f64.format.order x x = some .eq := (ov h h).trans (by rw [Int.compare_eq_eq.2 rfl])
  rcases hI with ⟨k, -, -⟩ | ⟨rfl, rfl, -, -⟩ | ⟨V', k, k0, rfl, rfl⟩
  · rw [o0] at k; cases k
  · exact hc w
  · have := val_one k h; omega
theorem kpart {x : Nat} {V p : Int} (h : HasV x V) (hn : min (max (V * 1048576 / T) 16384) 1048576 = p) (w : World) :
    Calls Try.prog 8 #[.float .f64 x] w fun e w' => e = .returned (.int .i64 p) ∧ w = w' := by
  obtain ⟨p', hI, -, -, hc, -⟩ := part_both x
  have o0 : FloatKind.f64.format.order x x = some .eq := (ov h h).trans (by rw [Int.compare_eq_eq.2 rfl])
  rcases hI with ⟨k, -⟩ | ⟨k, -⟩ | ⟨k, -⟩ | ⟨V', k, rfl⟩
  · rw [o0] at k; cases k
  · exact (inf_no_val k h).elim
  · exact (inf_no_val k h).elim
  · rw [val_one k h, hn] at hc; exact hc w

theorem e509 : ∃ V, HasV 4632360355466785587 V ∧ 0 ≤ V ∧ min V (10000 * T) / T = 50 :=
  ⟨_, ⟨⟨false, 7163538157286195, -47, by decide +kernel, by omega, by omega, rfl⟩⟩, by decide +kernel, by decide +kernel⟩
theorem em1 : ∃ V, HasV 13830554455654793216 V ∧ V < 0 := ⟨_, ⟨⟨true, 4503599627370496, -52, by decide +kernel, by omega, by omega, rfl⟩⟩, by decide +kernel⟩
theorem eh : ∃ V, HasV 4602678819172646912 V ∧ min (max (V * 1048576 / T) 16384) 1048576 = 524288 := ⟨_, ⟨⟨false, 4503599627370496, -53, by decide +kernel, by omega, by omega, rfl⟩⟩, by decide +kernel⟩
theorem em3 : ∃ V, HasV 13837309855095848960 V ∧ min (max (V * 1048576 / T) 16384) 1048576 = 16384 := ⟨_, ⟨⟨true, 6755399441055744, -51, by decide +kernel, by omega, by omega, rfl⟩⟩, by decide +kernel⟩

set_option maxHeartbeats 400000 in
theorem told_any (w : World) : Calls Try.prog 9 #[] w fun e w' => e = .returned (.bool true) ∧ Ex w w' := by
  have K1 : Hid (∀ w, Calls Try.prog 7 #[.float .f64 4632360355466785587] w fun e w' => e = .returned (.tuple #[.int .i64 50, .bool true]) ∧ w = w') := by
    obtain ⟨V, h, h0, h1⟩ := e509; exact Lib.hid (kpct h h0 h1)
  have K2 : Hid (∀ w, Calls Try.prog 7 #[.float .f64 13830554455654793216] w fun e w' => e = .returned (.tuple #[.int .i64 0, .bool false]) ∧ w = w') := by
    obtain ⟨V, h, h0⟩ := em1; exact Lib.hid (kpct_neg h h0)
  have K3 : Hid (∀ w, Calls Try.prog 8 #[.float .f64 4602678819172646912] w fun e w' => e = .returned (.int .i64 524288) ∧ w = w') := by
    obtain ⟨V, h, h0⟩ := eh; exact Lib.hid (kpart h h0)
  have K4 : Hid (∀ w, Calls Try.prog 8 #[.float .f64 13837309855095848960] w fun e w' => e = .returned (.int .i64 16384) ∧ w = w') := by
    obtain ⟨V, h, h0⟩ := em3; exact Lib.hid (kpart h h0)
  go_enter Try.func9, Try.ntmps9
  go_wp2_with fail
  refine (K1.out _).mono ?_
  rintro e w' ⟨rfl, rfl⟩
  go_wp2_with fail
  refine (K2.out _).mono ?_
  rintro e w' ⟨rfl, rfl⟩
  go_wp2_with fail
  refine (K3.out _).mono ?_
  rintro e w' ⟨rfl, rfl⟩
  go_wp2_with fail
  refine (K4.out _).mono ?_
  rintro e w' ⟨rfl, rfl⟩
  go_wp2_with fail
  refine (may_prog 1 256 0 0 true _ (by decide)).mono ?_
  rintro e w1 ⟨rfl, hw⟩
  have Hw1 := Lib.hid hw
  clear hw
  go_wp2_with fail
  refine (may_prog 1 257 0 0 false _ (by decide)).mono ?_
  rintro e w2 ⟨rfl, hw⟩
  have Hw2 := Lib.hid (Hw1.out.trans hw)
  clear hw
  go_wp2_with fail
  go_ret
  exact ⟨rfl, Hw2.out⟩

end Go.Proofs.Ytlandgfmdhcjmaa
