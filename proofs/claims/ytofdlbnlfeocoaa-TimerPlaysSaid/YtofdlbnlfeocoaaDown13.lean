/- container/heap: down. -/
import Derived.Test.YtofdlbnlfeocoaaUp13
namespace Go.Proofs.Ytofdlbnlfeocoaa
open Go.RowKit
set_option linter.unusedVariables false

/-- The child that goes first. -/
def kid (l : List (Int × Int × Int)) (N i : Nat) : Nat := if 2 * i + 2 < N ∧ ord (l.getD (2 * i + 2) zz) (l.getD (2 * i + 1) zz) < 0 then 2 * i + 2 else 2 * i + 1
def downL : Nat → List (Int × Int × Int) → Nat → Nat → List (Int × Int × Int) × Nat
  | 0, l, _, i => (l, i)
  | f + 1, l, N, i => if N ≤ 2 * i + 1 then (l, i) else if ord (l.getD (kid l N i) zz) (l.getD i zz) < 0 then downL f (swp l i (kid l N i)) N (kid l N i) else (l, i)

theorem down_end {f N k : Nat} {m : List (Int × Int × Int)} (h : N ≤ 2 * k + 1) : downL f m N k = (m, k) := by
  cases f with
  | zero => rfl
  | succ f => rw [downL, if_pos h]
theorem down_stop {f N k J : Nat} {m : List (Int × Int × Int)} (h : ¬ N ≤ 2 * k + 1) (hj : kid m N k = J) (hu : decide (ord (m.getD J zz) (m.getD k zz) < 0) = false) : downL f m N k = (m, k) := by
  cases f with
  | zero => rfl
  | succ f => rw [downL, if_neg h, hj, if_neg (of_decide_eq_false hu)]
theorem down_go {f N k J : Nat} {m : List (Int × Int × Int)} (hf : 0 < f) (h : ¬ N ≤ 2 * k + 1) (hj : kid m N k = J) (hu : decide (ord (m.getD J zz) (m.getD k zz) < 0) = true) : downL f m N k = downL (f - 1) (swp m k J) N J := by
  cases f with
  | zero => omega
  | succ f => rw [downL, if_neg h, hj, if_pos (of_decide_eq_true hu)]; rfl

set_option maxRecDepth 20000 in
set_option maxHeartbeats 3200000 in
theorem down_any {w : World} {base b g cap n : Nat} {l : List (Int × Int × Int)} (h : Sl w base b g cap n l) (i0 N : Nat) (hi : i0 < n) (hN : N ≤ n) (hn : n ≤ 1000) :
    Calls Try.prog 26 #[pS b, .int .i64 i0, .int .i64 N] w fun e w' => e = .returned (.bool (decide (i0 < (downL n l N i0).2))) ∧ Sl w' base b g cap n (downL n l N i0).1 ∧ Chg (fun i => i = g) w w' := by
  unfold pS
  obtain ⟨R, hR⟩ : ∃ R, R = downL n l N i0 := ⟨_, rfl⟩
  rw [← hR]
  go_enter Try.func26, Try.ntmps26
  go_wp2_with fail
  go_loopw [7] (fun iv wr => ∃ (k f : Nat) (m : List (Int × Int × Int)), k < n ∧ iv = .int .i64 k ∧ Sl wr base b g cap n m ∧ Chg (fun i => i = g) w wr ∧ downL f m N k = R ∧ n < f + k + 1) (fun iv _ => n - (intOf iv).toNat)
  case atStart => exact ⟨i0, n, l, hi, rfl, h, Chg.refl _ _, hR.symm, by omega⟩
  case round =>
    obtain ⟨k, f, m, hk, rfl, hs, hx, hu, hf⟩ := hrel
    have W1 := Lib.hid hs
    have X1 := Lib.hid hx
    have HU := Lib.hid hu
    have c0 := hs.cell
    clear hs hx hu h hR
    have q1 : wrap64 (2 * (k : Int)) = 2 * (k : Int) := by unfold wrap64; omega
    obtain ⟨a, ha⟩ : ∃ a, a = 2 * k + 1 := ⟨_, rfl⟩
    obtain ⟨c, hc⟩ : ∃ c, c = 2 * k + 2 := ⟨_, rfl⟩
    have q2 : 2 * (k : Int) + 1 = (a : Int) := by omega
    have q3 : wrap64 (a : Int) = (a : Int) := by unfold wrap64; omega
    have q4 : (a : Int) + 1 = (c : Int) := by omega
    have q5 : wrap64 (c : Int) = (c : Int) := by unfold wrap64; omega
    have r1 : k < a := by omega
    have r2 : a < c := by omega
    have q6 : ¬ ((a : Int) < 0) := by omega
    have HA := Lib.hid ha
    have HC := Lib.hid hc
    clear ha hc
    by_cases h1 : a < N
    · by_cases h2 : c < N
      · obtain ⟨t, ht⟩ : ∃ t, decide (ord (m.getD c zz) (m.getD a zz) < 0) = t := ⟨_, rfl⟩
        have HT := Lib.hid ht
        clear ht
        have ml := method_less c0
        have e1 : ¬ ((N : Int) ≤ (a : Int)) := by omega
        have e2 : (c : Int) < (N : Int) := by omega
        cases t with
        | false =>
          have HJ : Hid (kid m N k = a ∧ ¬ N ≤ 2 * k + 1) := Lib.hid (by
            have := HA.out; have := HC.out; have HT' := HT.out
            subst a c
            refine ⟨?_, by omega⟩
            unfold kid
            rw [if_neg (fun h => of_decide_eq_false HT' h.2)])
          go_wp2_with fail
          refine (W1.out.less c a (by omega) (by omega) false HT.out).mono ?_
          rintro e w1 ⟨rfl, hw1⟩
          replace W1 := Lib.hid (W1.out.ex hw1)
          replace X1 := Lib.hid (X1.out.ex hw1)
          clear hw1 ml c0
          obtain ⟨u, hu⟩ : ∃ u, decide (ord (m.getD a zz) (m.getD k zz) < 0) = u := ⟨_, rfl⟩
          have HUU := Lib.hid hu
          clear hu
          have ml2 := method_less W1.out.cell
          go_wp2_with fail
          cases u with
          | false =>
            refine (W1.out.less a k (by omega) (by omega) false HUU.out).mono ?_
            rintro e w2 ⟨rfl, h2⟩
            have H2 := Lib.hid h2
            clear h2
            go_wp2_with fail
            go_ret
            rw [← HU.out, down_stop HJ.out.2 HJ.out.1 HUU.out]
            refine ⟨by simp, ?_, X1.out.ex H2.out⟩
            exact W1.out.ex H2.out
          | true =>
            refine (W1.out.less a k (by omega) (by omega) true HUU.out).mono ?_
            rintro e w2 ⟨rfl, h2⟩
            have W2 := Lib.hid (W1.out.ex h2)
            have X2 := Lib.hid (X1.out.ex h2)
            have ms := method_swap (W1.out.ex h2).cell
            clear h2
            go_wp2_with fail
            refine (W2.out.swap k a (by omega) (by omega)).mono ?_
            rintro e w3 ⟨rfl, h3, h4⟩
            have H3 := Lib.hid h3
            have H4 := Lib.hid h4
            clear h3 h4
            go_wp2_with fail
            go_roundw
            case rel =>
              refine ⟨a, f - 1, swp m k a, by omega, rfl, H3.out, X2.out.trans H4.out (fun _ _ h => h), ?_, by omega⟩
              rw [← HU.out]
              exact (down_go (by omega) HJ.out.2 HJ.out.1 HUU.out).symm
            case measure => simp [intOf]; omega
        | true =>
          have HJ : Hid (kid m N k = c ∧ ¬ N ≤ 2 * k + 1) := Lib.hid (by
            have := HA.out; have := HC.out; have HT' := HT.out
            subst a c
            refine ⟨?_, by omega⟩
            unfold kid
            rw [if_pos ⟨by omega, of_decide_eq_true HT'⟩])
          go_wp2_with fail
          refine (W1.out.less c a (by omega) (by omega) true HT.out).mono ?_
          rintro e w1 ⟨rfl, hw1⟩
          replace W1 := Lib.hid (W1.out.ex hw1)
          replace X1 := Lib.hid (X1.out.ex hw1)
          clear hw1 ml c0
          obtain ⟨u, hu⟩ : ∃ u, decide (ord (m.getD c zz) (m.getD k zz) < 0) = u := ⟨_, rfl⟩
          have HUU := Lib.hid hu
          clear hu
          have ml2 := method_less W1.out.cell
          go_wp2_with fail
          cases u with
          | false =>
            refine (W1.out.less c k (by omega) (by omega) false HUU.out).mono ?_
            rintro e w2 ⟨rfl, h2⟩
            have H2 := Lib.hid h2
            clear h2
            go_wp2_with fail
            go_ret
            rw [← HU.out, down_stop HJ.out.2 HJ.out.1 HUU.out]
            refine ⟨by simp, ?_, X1.out.ex H2.out⟩
            exact W1.out.ex H2.out
          | true =>
            refine (W1.out.less c k (by omega) (by omega) true HUU.out).mono ?_
            rintro e w2 ⟨rfl, h2⟩
            have W2 := Lib.hid (W1.out.ex h2)
            have X2 := Lib.hid (X1.out.ex h2)
            have ms := method_swap (W1.out.ex h2).cell
            clear h2
            go_wp2_with fail
            refine (W2.out.swap k c (by omega) (by omega)).mono ?_
            rintro e w3 ⟨rfl, h3, h4⟩
            have H3 := Lib.hid h3
            have H4 := Lib.hid h4
            clear h3 h4
            go_wp2_with fail
            go_roundw
            case rel =>
              refine ⟨c, f - 1, swp m k c, by omega, rfl, H3.out, X2.out.trans H4.out (fun _ _ h => h), ?_, by omega⟩
              rw [← HU.out]
              exact (down_go (by omega) HJ.out.2 HJ.out.1 HUU.out).symm
            case measure => simp [intOf]; omega
      · have e2 : decide ((c : Int) < (N : Int)) = false := by simp; omega
        have e1 : ¬ ((N : Int) ≤ (a : Int)) := by omega
        have HJ : Hid (kid m N k = a ∧ ¬ N ≤ 2 * k + 1) := Lib.hid (by
          have := HA.out; have := HC.out
          subst a c
          refine ⟨?_, by omega⟩
          unfold kid
          rw [if_neg (fun h => h2 h.1)])
        obtain ⟨u, hu⟩ : ∃ u, decide (ord (m.getD a zz) (m.getD k zz) < 0) = u := ⟨_, rfl⟩
        have HUU := Lib.hid hu
        clear hu
        have ml2 := method_less W1.out.cell
        go_wp2_with fail
        cases u with
        | false =>
          refine (W1.out.less a k (by omega) (by omega) false HUU.out).mono ?_
          rintro e w2 ⟨rfl, h2⟩
          have H2 := Lib.hid h2
          clear h2
          go_wp2_with fail
          go_ret
          rw [← HU.out, down_stop HJ.out.2 HJ.out.1 HUU.out]
          refine ⟨by simp, ?_, X1.out.ex H2.out⟩
          exact W1.out.ex H2.out
        | true =>
          refine (W1.out.less a k (by omega) (by omega) true HUU.out).mono ?_
          rintro e w2 ⟨rfl, h2⟩
          have W2 := Lib.hid (W1.out.ex h2)
          have X2 := Lib.hid (X1.out.ex h2)
          have ms := method_swap (W1.out.ex h2).cell
          clear h2
          go_wp2_with fail
          refine (W2.out.swap k a (by omega) (by omega)).mono ?_
          rintro e w3 ⟨rfl, h3, h4⟩
          have H3 := Lib.hid h3
          have H4 := Lib.hid h4
          clear h3 h4
          go_wp2_with fail
          go_roundw
          case rel =>
            refine ⟨a, f - 1, swp m k a, by omega, rfl, H3.out, X2.out.trans H4.out (fun _ _ h => h), ?_, by omega⟩
            rw [← HU.out]
            exact (down_go (by omega) HJ.out.2 HJ.out.1 HUU.out).symm
          case measure => simp [intOf]; omega
    · have e1 : (N : Int) ≤ (a : Int) := by omega
      go_wp2_with fail
      go_ret
      rw [← HU.out, down_end (by have := HA.out; omega)]
      exact ⟨rfl, W1.out, X1.out⟩

end Go.Proofs.Ytofdlbnlfeocoaa
