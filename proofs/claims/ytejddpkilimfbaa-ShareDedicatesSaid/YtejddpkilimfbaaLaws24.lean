/- The laws of layer 24: who works for the collector. -/
import Derived.Test.YtejddpkilimfbaaShareRef
import Derived.Test.YtejddpkilimfbaaTold24
namespace Go.Proofs.Ytejddpkilimfbaa
open Go.RowKit
set_option linter.unusedVariables false

set_option maxHeartbeats 1600000 in
theorem walk_ShareWorkers (ps part p worked all : Int) (_w0 : (Lit.int .i64 ps).wf = true) (w1 : (Lit.int .i64 part).wf = true) (_w2 : (Lit.int .i64 p).wf = true) (_w3 : (Lit.int .i64 worked).wf = true) (_w4 : (Lit.int .i64 all).wf = true) (w : World) :
    Calls Try.prog 3 #[.int .i64 ps, .int .i64 part, .int .i64 p, .int .i64 worked, .int .i64 all] w fun e w' => e = .returned (.bool true) ∧ Grown w w' := by
  obtain ⟨p1, p2⟩ := wf64 w1
  clear _w0 w1 _w2 _w3 _w4
  obtain ⟨k, hk⟩ : ∃ k, wk ps part = k := ⟨_, rfl⟩
  obtain ⟨l, hl⟩ : ∃ l, wl ps part = l := ⟨_, rfl⟩
  obtain ⟨m, hm⟩ : ∃ m, mayB worked all part = m := ⟨_, rfl⟩
  have hd : (0 ≤ p ∧ p < k ∧ isDed p ps part = true) ∨ (0 ≤ p ∧ decide (p < k) = false ∧ isDed p ps part = false) ∨ (¬ 0 ≤ p ∧ isDed p ps part = false) := by
    unfold isDed
    rw [hk]
    by_cases h1 : 0 ≤ p
    · by_cases h2 : p < k
      · exact .inl ⟨h1, h2, by simp [h1, h2]⟩
      · exact .inr (.inl ⟨h1, by simpa using h2, by simp [h2]⟩)
    · exact .inr (.inr ⟨h1, by simp [h1]⟩)
  have Hk := Lib.hid hk
  have Hl := Lib.hid hl
  have Hm := Lib.hid hm
  clear hk hl hm
  rcases hd with ⟨h1, h2, h3⟩ | ⟨h1, h2, h3⟩ | ⟨h1, h3⟩
  all_goals
    have H3 := Lib.hid h3
    clear h3
    go_enter Try.func3, Try.ntmps3
    go_wp2_with fail
    refine (workers_any ps part _).mono ?_
    rintro e w1 ⟨rfl, hw⟩
    have Hw1 := Lib.hid hw
    clear hw
    rw [Hk.out, Hl.out]
    go_wp2_with fail
    refine (rworkers_any ps part _).mono ?_
    rintro e w2 ⟨rfl, hw⟩
    have Hw2 := Lib.hid (Hw1.out.trans hw)
    clear hw Hw1
    rw [Hk.out, Hl.out]
    go_wp2_with fail
    refine (told_any _).mono ?_
    rintro e w3 ⟨rfl, hw⟩
    have Hw3 := Lib.hid (Hw2.out.trans hw)
    clear hw Hw2
    go_wp2_with fail
    refine (kded H3.out).mono ?_
    rintro e w4 ⟨rfl, hw⟩
    have Hw4 := Lib.hid (Hw3.out.trans hw)
    clear hw Hw3
    go_wp2_with fail
    refine (kmay Hm.out p1 p2).mono ?_
    rintro e w' ⟨rfl, rfl⟩
    go_wp2_with fail
    refine (rmay_any worked all part _ p1 p2).mono ?_
    rintro e w' ⟨rfl, rfl⟩
    rw [Hm.out]
    go_wp2_with fail
    go_ret
    exact ⟨by simp, Hw4.out.grown⟩

theorem and20 (x : Int) : bits .and .i64 x 1048575 = x % 1048576 := and_mask x 20 (by omega)

/-- The parts together. -/
theorem parts_plain (n p d f : Int) (n1 : 1 ≤ n) (n2 : n ≤ 64) (p1 : 0 ≤ p) (p2 : p < 1048576) (hd : wk n p = d) (hf : wl n p = f) :
    0 ≤ d ∧ d ≤ n ∧ 0 ≤ f ∧ f < 1048576 ∧ 0 ≤ n * p ∧ n * p ≤ 67108864 ∧ 0 ≤ f * n ∧ d * 1048576 + f * n ≤ n * p ∧ n * p - n < d * 1048576 + f * n := by
  unfold wk at hd
  unfold wl at hf
  rw [bnd_in n1 n2, bnd_in p1 (by omega)] at hd hf
  obtain ⟨q1, q2⟩ := all_bd n p n1 n2 p1 (by omega)
  generalize n * p = all at *
  have h1 := Int.ediv_mul_le (all % 1048576) (show n ≠ 0 by omega)
  have h2 := Int.lt_ediv_add_one_mul_self (all % 1048576) (show 0 < n by omega)
  have h3 := ediv_bd (n := all % 1048576) (y := n) (B := 1048575) n1 (by omega) (by omega) (by omega)
  rw [Int.add_mul, Int.one_mul] at h2
  rw [hf] at h1 h2 h3
  have h4 : 0 ≤ f := by rw [← hf]; exact Int.ediv_nonneg (by omega) (by omega)
  have h5 := Int.mul_nonneg h4 (show 0 ≤ n by omega)
  refine ⟨by omega, by omega, h4, by omega, by omega, by omega, h5, by omega, by omega⟩

set_option maxHeartbeats 800000 in
theorem walk_ShareParts (ps part : Int) (_w0 : (Lit.int .i64 ps).wf = true) (_w1 : (Lit.int .i64 part).wf = true) (w : World) :
    Calls Try.prog 4 #[.int .i64 ps, .int .i64 part] w fun e w' => e = .returned (.bool true) ∧ Grown w w' := by
  clear _w0 _w1
  obtain ⟨r, hr⟩ : ∃ r, (IntKind.u64.wrap ps).tmod 64 = r := ⟨_, rfl⟩
  obtain ⟨p, hp⟩ : ∃ p, bits .and .i64 part 1048575 = p := ⟨_, rfl⟩
  obtain ⟨r1, r2⟩ := umod_bd ps 64 (by omega)
  rw [hr] at r1 r2
  have p1 : 0 ≤ p := by rw [and20] at hp; omega
  have p2 : p < 1048576 := by rw [and20] at hp; omega
  obtain ⟨n, hn⟩ : ∃ n, 1 + r = n := ⟨_, rfl⟩
  have n1 : 1 ≤ n := by omega
  have n2 : n ≤ 64 := by omega
  obtain ⟨d, hd⟩ : ∃ d, wk n p = d := ⟨_, rfl⟩
  obtain ⟨f, hf⟩ : ∃ f, wl n p = f := ⟨_, rfl⟩
  obtain ⟨k1, k2, k3, k4, k5, k6, k7, k8, k9⟩ := parts_plain n p d f n1 n2 p1 p2 hd hf
  have Hd := Lib.hid hd
  have Hf := Lib.hid hf
  clear hd hf
  go_enter Try.func4, Try.ntmps4
  go_wp2_with fail
  refine (kworkers Hd.out Hf.out).mono ?_
  rintro e w1 ⟨rfl, hw⟩
  have Hw1 := Lib.hid hw
  clear hw
  go_wp2_with fail
  refine (told_any _).mono ?_
  rintro e w2 ⟨rfl, hw⟩
  have Hw2 := Lib.hid (Hw1.out.trans hw)
  clear hw Hw1
  go_wp2_with fail
  go_ret
  exact ⟨rfl, Hw2.out.grown⟩

/-- A step of who may work. -/
theorem keeps_step (p wkd i : Int) (p1 : 16384 ≤ p) (p2 : p ≤ 1048576) (i0 : 0 ≤ i) (i2 : i ≤ 500) (w0 : 0 ≤ wkd) (h1 : wkd * 1048576 ≤ i * p) (h2 : i * p - 1048576 ≤ wkd * 1048576) :
    (mayB wkd i p = true ∧ 0 ≤ wkd + 1 ∧ (wkd + 1) * 1048576 ≤ (i + 1) * p ∧ (i + 1) * p - 1048576 ≤ (wkd + 1) * 1048576) ∨
    (mayB wkd i p = false ∧ wkd * 1048576 ≤ (i + 1) * p ∧ (i + 1) * p - 1048576 ≤ wkd * 1048576) := by
  have hi : i * p ≤ 500 * 1048576 := Int.mul_le_mul i2 p2 (by omega) (by omega)
  unfold mayB
  rw [bnd_in w0 (by omega), bnd_in i0 (by omega)]
  have e : (i + 1) * p = i * p + p := by rw [Int.add_mul, Int.one_mul]
  rw [e]
  by_cases h : (wkd + 1) * 1048576 ≤ i * p + p
  · exact .inl ⟨by simpa using h, by omega, h, by omega⟩
  · exact .inr ⟨by simpa using h, by omega, by omega⟩

theorem keeps_bd (p i : Int) (p1 : 16384 ≤ p) (p2 : p ≤ 1048576) (i0 : 0 ≤ i) (i2 : i ≤ 500) : 0 ≤ (i + 1) * p ∧ (i + 1) * p ≤ 525336576 := by
  refine ⟨Int.mul_nonneg (by omega) (by omega), ?_⟩
  have : (i + 1) * p ≤ 501 * 1048576 := Int.mul_le_mul (by omega) p2 (by omega) (by omega)
  omega

set_option maxHeartbeats 800000 in
theorem walk_ShareKeeps (part steps : Int) (_w0 : (Lit.int .i64 part).wf = true) (_w1 : (Lit.int .i64 steps).wf = true) (w : World) :
    Calls Try.prog 5 #[.int .i64 part, .int .i64 steps] w fun e w' => e = .returned (.bool true) ∧ Grown w w' := by
  clear _w0 _w1
  obtain ⟨r, hr⟩ : ∃ r, (IntKind.u64.wrap part).tmod 1032193 = r := ⟨_, rfl⟩
  obtain ⟨r1, r2⟩ := umod_bd part 1032193 (by omega)
  rw [hr] at r1 r2
  obtain ⟨n, hn⟩ : ∃ n, (IntKind.u64.wrap steps).tmod 501 = n := ⟨_, rfl⟩
  obtain ⟨n1, n2⟩ := umod_bd steps 501 (by omega)
  rw [hn] at n1 n2
  obtain ⟨p, hp⟩ : ∃ p, 16384 + r = p := ⟨_, rfl⟩
  have p1 : 16384 ≤ p := by omega
  have p2 : p ≤ 1048576 := by omega
  go_enter Try.func5, Try.ntmps5
  go_wp2_with fail
  go_loop [6, 8] (fun wv iv => ∃ wkd i : Int, 0 ≤ wkd ∧ 0 ≤ i ∧ i ≤ n ∧ wkd * 1048576 ≤ i * p ∧ i * p - 1048576 ≤ wkd * 1048576 ∧ wv = .int .i64 wkd ∧ iv = .int .i64 i) (fun _ iv => (n - intOf iv).toNat)
  case atStart => exact ⟨0, 0, by omega, by omega, by omega, by omega, by omega, rfl, rfl⟩
  case round =>
    obtain ⟨wkd, i, h0, i0, i1, h1, h2, rfl, rfl⟩ := hrel
    by_cases hi : i < n
    · obtain ⟨b1, b2⟩ := keeps_bd p i p1 p2 i0 (by omega)
      have hs := keeps_step p wkd i p1 p2 i0 (by omega) h0 h1 h2
      obtain ⟨q, hq⟩ : ∃ q, (i + 1) * p = q := ⟨_, rfl⟩
      rw [hq] at b1 b2 hs
      clear h1 h2
      rcases hs with ⟨h3, h4, h5, h6⟩ | ⟨h3, h5, h6⟩
      all_goals
        have H3 := Lib.hid h3
        clear h3
        go_wp2_with fail
        refine (kmay H3.out (by omega) (by omega)).mono ?_
        rintro e w' ⟨rfl, rfl⟩
        go_wp2_with fail
        go_round
        case rel => exact ⟨_, i + 1, by assumption, by omega, by omega, by omega, by omega, rfl, rfl⟩
        case measure => simp [intOf]; omega
    · clear h1 h2
      go_wp2_with fail
      refine (told_any _).mono ?_
      rintro e w2 ⟨rfl, hw⟩
      have Hw2 := Lib.hid hw
      clear hw
      go_wp2_with fail
      go_ret
      exact ⟨rfl, Hw2.out.grown⟩

end Go.Proofs.Ytejddpkilimfbaa
