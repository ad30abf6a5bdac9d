/- ShareDedicates: so many Ps as Workers says are dedicated, the first ones; with a greater part no fewer: for all numbers. -/
import Derived.Test.YtejddpkilimfbaaLaws24
namespace Go.Proofs.Ytejddpkilimfbaa
open Go.RowKit
set_option linter.unusedVariables false

theorem wk_mono (n x y : Int) (h1 : 1 ≤ n) (h2 : n ≤ 64) (hx : 0 ≤ x) (hy : y ≤ 1048576) (h : x ≤ y) : wk n x ≤ wk n y := by
  unfold wk
  rw [bnd_in h1 h2, bnd_in hx (by omega), bnd_in (by omega) hy]
  exact Int.ediv_le_ediv (by omega) (Int.mul_le_mul_of_nonneg_left h (by omega))

theorem wl_nonneg (n x : Int) : 0 ≤ wl n x := by
  unfold wl
  have := (bnd_le 1 64 n (by omega)).1
  exact Int.ediv_nonneg (by omega) (by omega)

theorem wk_all (n : Int) (h1 : 1 ≤ n) (h2 : n ≤ 64) : wk n 1048576 = n ∧ wl n 1048576 = 0 := by
  unfold wk wl
  rw [bnd_in h1 h2, bnd_in (by omega) (by omega)]
  exact ⟨by omega, by rw [show n * 1048576 % 1048576 = 0 by omega]; exact Int.zero_ediv _⟩

set_option maxHeartbeats 1600000 in
theorem walk_ShareDedicates (ps a b : Int) (_w0 : (Lit.int .i64 ps).wf = true) (_w1 : (Lit.int .i64 a).wf = true) (_w2 : (Lit.int .i64 b).wf = true) (w : World) :
    Calls Try.prog 6 #[.int .i64 ps, .int .i64 a, .int .i64 b] w fun e w' => e = .returned (.bool true) ∧ Grown w w' := by
  clear _w0 _w1 _w2
  obtain ⟨r, hr⟩ : ∃ r, (IntKind.u64.wrap ps).tmod 64 = r := ⟨_, rfl⟩
  obtain ⟨r1, r2⟩ := umod_bd ps 64 (by omega)
  rw [hr] at r1 r2
  obtain ⟨n, hn⟩ : ∃ n, 1 + r = n := ⟨_, rfl⟩
  have n1 : 1 ≤ n := by omega
  have n2 : n ≤ 64 := by omega
  obtain ⟨a1, a2⟩ := umod_bd a 1048577 (by omega)
  obtain ⟨b1, b2⟩ := umod_bd b 1048577 (by omega)
  obtain ⟨k1, k2⟩ := wk_all n n1 n2
  have K1 := Lib.hid k1
  have K2 := Lib.hid k2
  clear k1 k2
  have hways : ∃ X Y : Int, 0 ≤ X ∧ Y ≤ 1048576 ∧ X ≤ Y ∧ (((IntKind.u64.wrap a).tmod 1048577 = X ∧ (IntKind.u64.wrap b).tmod 1048577 = Y ∧ ¬ Y < X) ∨ ((IntKind.u64.wrap a).tmod 1048577 = Y ∧ (IntKind.u64.wrap b).tmod 1048577 = X ∧ X < Y)) := by
    by_cases h : (IntKind.u64.wrap b).tmod 1048577 < (IntKind.u64.wrap a).tmod 1048577
    · exact ⟨_, _, b1, by omega, by omega, .inr ⟨rfl, rfl, h⟩⟩
    · exact ⟨_, _, a1, by omega, by omega, .inl ⟨rfl, rfl, h⟩⟩
  clear a1 a2 b1 b2
  obtain ⟨X, Y, x1, y2, hxy, hways⟩ := hways
  obtain ⟨d, hd⟩ : ∃ d, wk n X = d := ⟨_, rfl⟩
  obtain ⟨f0, hf0⟩ : ∃ f, wl n X = f := ⟨_, rfl⟩
  obtain ⟨e0, he⟩ : ∃ d, wk n Y = d := ⟨_, rfl⟩
  obtain ⟨f, hf⟩ : ∃ f, wl n Y = f := ⟨_, rfl⟩
  have hde : d ≤ e0 := by rw [← hd, ← he]; exact wk_mono n X Y n1 n2 x1 y2 hxy
  have hd0 : 0 ≤ d := by rw [← hd]; exact (wk_bd n X).1
  have hen : e0 ≤ n := by have := (wk_bd n Y).2; rw [bnd_in n1 n2, he] at this; exact this
  have hf1 : 0 ≤ f := by rw [← hf]; exact wl_nonneg n Y
  have Hd := Lib.hid hd
  have Hf0 := Lib.hid hf0
  have He := Lib.hid he
  have Hf := Lib.hid hf
  have hed : decide (e0 < d) = false := by simp; omega
  have hne : decide (n < e0) = false := by simp; omega
  clear hd hf0 he hf hxy
  rcases hways with ⟨g1, g2, g3⟩ | ⟨g1, g2, g3⟩
  all_goals
    go_enter Try.func6, Try.ntmps6
    go_wp2_with fail
    refine (kworkers Hd.out Hf0.out).mono ?_
    rintro e w1 ⟨rfl, hw⟩
    have Hw1 := Lib.hid hw
    clear hw
    go_wp2_with fail
    refine (kworkers He.out Hf.out).mono ?_
    rintro e w2 ⟨rfl, hw⟩
    have Hw2 := Lib.hid (Hw1.out.trans hw)
    clear hw Hw1
    go_wp2_with fail
    go_loopw [14] (fun pv wr => ∃ p : Int, -1 ≤ p ∧ p ≤ n + 1 ∧ pv = .int .i64 p ∧ Dr w wr) (fun pv _ => (n + 1 - intOf pv).toNat)
    case atStart => exact ⟨-1, by omega, by omega, rfl, Hw2.out⟩
    case round =>
      obtain ⟨p, p1, p2, rfl, hw⟩ := hrel
      have Hw3 := Lib.hid hw
      clear hw Hw2
      by_cases hp : p ≤ n
      · have hdd : (0 ≤ p ∧ p < d ∧ isDed p n X = true) ∨ (0 ≤ p ∧ decide (p < d) = false ∧ isDed p n X = false) ∨ (¬ 0 ≤ p ∧ isDed p n X = false) := by
          unfold isDed
          rw [Hd.out]
          by_cases h1 : 0 ≤ p
          · by_cases h2 : p < d
            · exact .inl ⟨h1, h2, by simp [h1, h2]⟩
            · exact .inr (.inl ⟨h1, by simpa using h2, by simp [h2]⟩)
          · exact .inr (.inr ⟨h1, by simp [h1]⟩)
        rcases hdd with ⟨h1, h2, h3⟩ | ⟨h1, h2, h3⟩ | ⟨h1, h3⟩
        all_goals
          have H3 := Lib.hid h3
          clear h3
          go_wp2_with fail
          refine (kded H3.out).mono ?_
          rintro e w4 ⟨rfl, hw⟩
          have Hw4 := Lib.hid (Hw3.out.trans hw)
          clear hw Hw3
          go_wp2_with fail
          go_roundw
          case rel => exact ⟨p + 1, by omega, by omega, rfl, Hw4.out⟩
          case measure => simp [intOf]; omega
      · go_wp2_with fail
        refine (kworkers K1.out K2.out).mono ?_
        rintro e w4 ⟨rfl, hw⟩
        have Hw4 := Lib.hid (Hw3.out.trans hw)
        clear hw Hw3
        go_wp2_with fail
        refine (told_any _).mono ?_
        rintro e w5 ⟨rfl, hw⟩
        have Hw5 := Lib.hid (Hw4.out.trans hw)
        clear hw Hw4
        go_wp2_with fail
        refine (kmay (b := true) (by decide) (by omega) (by omega)).mono ?_
        rintro e w' ⟨rfl, rfl⟩
        go_wp2_with fail
        refine (kmay (b := false) (by decide) (by omega) (by omega)).mono ?_
        rintro e w' ⟨rfl, rfl⟩
        go_wp2_with fail
        go_ret
        exact ⟨rfl, Hw5.out.grown⟩

end Go.Proofs.Ytejddpkilimfbaa
