/- TimerTwice. -/
import Derived.Test.YtofdlbnlfeocoaaTwiceP
import Derived.Laws.Cover1
namespace Go.Proofs.Ytofdlbnlfeocoaa
open Go.RowKit
set_option linter.unusedVariables false

theorem min3_of {x y z m : Int} (h : min (min x y) z = m) : ∀ ts t (w : World), (Builtin.min_ ts t #[.int .i64 x, .int .i64 y, .int .i64 z]).run Try.prog w = .ok (.int .i64 m) w := by
  intro ts t w
  rw [run_min_int3, ← h]
  congr 2
  split <;> split <;> omega

theorem some_row {w : World} {base n k cap : Nat} {e : TypeId} {a : Option Addr} {xs : List Value} {size : Nat} (h : w.ownsRow base e size (.slice a n cap) n xs) (hk : k < n) : ∃ g, a = some ⟨g, 0, none⟩ ∧ (n : Int) ≤ (cap : Int) := by
  rcases row_shape h with ⟨h1, h2, -⟩ | ⟨g, cap', h1, -, -, h4, -⟩
  · omega
  · simp only [Value.slice.injEq] at h1
    exact ⟨g, h1.1, by omega⟩

set_option maxRecDepth 20000 in
set_option maxHeartbeats 6400000 in
theorem twice_walk (a b c : Int) (w : World) :
    Calls Try.prog 4 #[.int .i64 a, .int .i64 b, .int .i64 c] w fun e w' => e = .returned (.bool true) ∧ Ex w w' := by
  obtain ⟨x, hx⟩ : ∃ r, (IntKind.u64.wrap a).tmod 100 = r := ⟨_, rfl⟩
  obtain ⟨x1, x2⟩ := umod_bd a 100 (by omega)
  rw [hx] at x1 x2
  obtain ⟨y, hy⟩ : ∃ r, (IntKind.u64.wrap b).tmod 100 = r := ⟨_, rfl⟩
  obtain ⟨y1, y2⟩ := umod_bd b 100 (by omega)
  rw [hy] at y1 y2
  obtain ⟨z, hz⟩ : ∃ r, (IntKind.u64.wrap c).tmod 100 = r := ⟨_, rfl⟩
  obtain ⟨z1, z2⟩ := umod_bd c 100 (by omega)
  rw [hz] at z1 z2
  obtain ⟨s, S3, p1, p2, p3, p4, p5⟩ := twice_del x y z
  obtain ⟨q1, q2, q3, q4, q5, q6⟩ := twice_due x y z s (delS 1 S3) x2 y2 z2 p5
  obtain ⟨S, hS⟩ : ∃ S, delS 1 S3 = S := ⟨_, rfl⟩
  obtain ⟨mn, hmn⟩ : ∃ m, min x y = m := ⟨_, rfl⟩
  obtain ⟨first, hfirst⟩ : ∃ m, (at3 S3 0).1 = m := ⟨_, rfl⟩
  rw [hS] at p5 q1 q2 q3 q4 q5 q6
  have HS := Lib.hid hS
  have M2 : ∀ ts t (w : World), (Builtin.min_ ts t #[.int .i64 x, .int .i64 y]).run Try.prog w = .ok (.int .i64 mn) w := by
    intro ts t w
    rw [run_min_int2, ← hmn]
    congr 2
    split <;> omega
  have M3 := min3_of p3.symm
  rw [hmn] at q2 q3 q4 q5 q6
  rw [hfirst] at M3
  have HF := Lib.hid hfirst
  clear hS hfirst p3
  have P1 := Lib.hid p1
  have P2 := Lib.hid p2
  have P4 := Lib.hid p4
  have Q1 := Lib.hid q1
  have Q6 := Lib.hid q6
  clear p1 p2 p4 p5 q1 q6
  go_enter Try.func4, Try.ntmps4
  go_wp2_with fail
  refine (ts_new w).mono ?_
  rintro e w1 ⟨rfl, h1, c1⟩
  have C1 := Lib.hid c1
  have H1 := Lib.hid h1
  clear h1 c1
  go_wp2_with fail
  refine (ts_add H1.out (by simp) (by omega) x 1).mono ?_
  rintro e w2 ⟨rfl, ⟨o2, h2, -⟩, c2⟩
  have C2 := Lib.hid (fb_ex C1.out C1.out.size (H1.out.fb c2))
  have H2 := Lib.hid h2
  clear h2 c2
  go_wp2_with fail
  refine (ts_add H2.out (by simp [insT]) (by omega) z 2).mono ?_
  rintro e w3 ⟨rfl, ⟨o3, h3, -⟩, c3⟩
  have C3 := Lib.hid (fb_ex C2.out C2.out.size (H2.out.fb c3))
  have H3 := Lib.hid h3
  clear h3 c3
  go_wp2_with fail
  refine (ts_add H3.out (by rw [(insT_perm _ _).length_eq]; simp [insT]) (by omega) y 1).mono ?_
  rintro e w4 ⟨rfl, ⟨o4, h4, -⟩, c4⟩
  have C4 := Lib.hid (fb_ex C3.out C3.out.size (H3.out.fb c4))
  rw [P1.out] at h4
  have H4 := Lib.hid h4
  clear h4 c4
  have K1 := ts_len H4.out
  rw [P2.out] at K1
  have HK1 := Lib.hid K1
  clear K1
  go_wp2_with fail
  refine HK1.out.mono ?_
  rintro e w' ⟨rfl, rfl⟩
  have K1 := ts_next H4.out (by rw [P2.out]; omega)
  rw [HF.out] at K1
  have HK2 := Lib.hid K1
  clear K1
  go_wp2_with fail
  refine HK2.out.mono ?_
  rintro e w' ⟨rfl, rfl⟩
  have K1 := ts_del H4.out (by rw [P2.out]; omega) 1
  have HK3 := Lib.hid K1
  clear K1
  go_wp2_with fail
  refine HK3.out.mono ?_
  rintro e w5 ⟨rfl, h5, c5⟩
  rw [HS.out] at h5
  have C5 := Lib.hid (fb_ex C4.out C4.out.size (H4.out.fb c5))
  have H5 := Lib.hid h5
  clear h5 c5
  have K1 := ts_len H5.out
  rw [Q1.out] at K1
  have HK4 := Lib.hid K1
  clear K1
  rw [P4.out]
  go_wp2_with fail
  refine HK4.out.mono ?_
  rintro e w' ⟨rfl, rfl⟩
  have HK5 := Lib.hid (ts_due H5.out (by rw [Q1.out]; omega) mn)
  go_wp2_with fail
  refine HK5.out.mono ?_
  rintro e w6 ⟨l, rfl, hr, h6, c6⟩
  change TRow w6 w5.heap.size l (gs (dueS mn S)) at hr
  have C6 := Lib.hid (fb_ex C5.out C5.out.size (H5.out.fb c6))
  have H6 := Lib.hid h6
  have R6 := Lib.hid hr
  clear h6 hr c6
  obtain ⟨L, hL⟩ : ∃ L, gs (dueS mn S) = L := ⟨_, rfl⟩
  obtain ⟨R, hR⟩ : ∃ R, gs (dueS 100 (leftS mn S)) = R := ⟨_, rfl⟩
  rw [hL] at q2 q3 q4 q5 R6
  rw [hR] at q4 q5
  have HR := Lib.hid hR
  have Q2 := Lib.hid q2
  have Q4 := Lib.hid q4
  have Q5 := Lib.hid q5
  have o1 : ones L ≤ 1 := q3
  have l1 : L.length ≤ 2 := by omega
  have l2 : R.length ≤ 2 := by omega
  clear hL hR q2 q3 q4 q5
  obtain ⟨la, lc, rfl⟩ := row_val R6.out
  go_wp2_with fail
  go_loop [14, 15] (fun ov iv => ∃ k : Nat, k ≤ L.length ∧ ov = .int .i64 ((ones (L.take k) : Nat) : Int) ∧ iv = .int .i64 k) (fun _ iv => L.length - (intOf iv).toNat)
  case atStart => exact ⟨0, Nat.zero_le _, rfl, rfl⟩
  case round =>
    obtain ⟨k, hk, rfl, rfl⟩ := hrel
    by_cases hlt : k < L.length
    · have hlt' : (k : Int) < (L.length : Int) := by omega
      obtain ⟨g, rfl, hcap⟩ := some_row R6.out hlt
      have hc : w6.cell? ⟨g, k, none⟩ = some (.int .i64 (L.getD k 0)) := by
        rw [World.ownsRow.cellAt R6.out k (by omega)]
        simp [intsZ, hlt]
      have OS := Lib.hid (ones_snoc L k hlt)
      have ob : ones (L.take k) ≤ 2 := by
        have h1 : ones (L.take k) ≤ (L.take k).length := List.length_filter_le _ _
        have h2 : (L.take k).length ≤ L.length := List.length_take_le' _ _
        omega
      generalize L.getD k 0 = x9 at *
      by_cases hx9 : (x9 == 1) = true
      · go_wp2_with fail
        go_round
        case rel => exact ⟨k + 1, by omega, by rw [OS.out, if_pos hx9]; go_num, by go_num⟩
        case measure => simp [intOf]; omega
      · have hx8 : (x9 == 1) = false := by simpa using hx9
        have HX := Lib.hid hx9
        clear hx9
        go_wp2_with fail
        go_round
        case rel => exact ⟨k + 1, by omega, by rw [OS.out, if_neg HX.out]; go_num, by go_num⟩
        case measure => simp [intOf]; omega
    · obtain rfl : k = L.length := by omega
      have e1 : ¬ ((L.length : Nat) : Int) < ((L.length : Nat) : Int) := by omega
      rw [List.take_length]
      have HK6 := Lib.hid (ts_due H6.out (by have := Q1.out; have h9 : (leftS mn S).length ≤ S.length := List.length_filter_le _ _; omega) 100)
      obtain ⟨r, hr1, hr2⟩ : ∃ r, (((ones L : Nat) : Int) == 1) = r ∧ (x == y) = r := by
        refine ⟨_, rfl, ?_⟩
        have h1 := Q2.out
        by_cases h : x = y
        · have h2 : ones L = 1 := by simpa [h] using h1
          simp [h, h2]
        · have h2 : ¬ ones L = 1 := by simpa [h] using h1
          have h3 : (((ones L : Nat) : Int) == 1) = false := by
            apply Bool.eq_false_iff.2
            intro h4
            have := of_decide_eq_true h4
            omega
          rw [h3]
          simpa using h
      go_wp2_with fail
      refine HK6.out.mono ?_
      rintro e w7 ⟨l', rfl, hr, h7, c7⟩
      change TRow w7 w6.heap.size l' (gs (dueS 100 (leftS mn S))) at hr
      rw [HR.out] at hr
      rw [Q6.out] at h7
      have C7 := Lib.hid (fb_ex C6.out C6.out.size (H6.out.fb c7))
      have H7 := Lib.hid h7
      have R7 := Lib.hid hr
      clear h7 hr c7 hr1 hr2
      obtain ⟨ra, rc, rfl⟩ := row_val R7.out
      go_wp2_with fail
      go_loop [14, 17] (fun ov iv => ∃ k : Nat, k ≤ R.length ∧ ov = .int .i64 ((ones L + ones (R.take k) : Nat) : Int) ∧ iv = .int .i64 k) (fun _ iv => R.length - (intOf iv).toNat)
      case atStart => exact ⟨0, Nat.zero_le _, rfl, rfl⟩
      case round =>
        obtain ⟨k, hk, rfl, rfl⟩ := hrel
        by_cases hlt : k < R.length
        · have hlt' : (k : Int) < (R.length : Int) := by omega
          obtain ⟨g, rfl, hcap⟩ := some_row R7.out hlt
          have hc : w7.cell? ⟨g, k, none⟩ = some (.int .i64 (R.getD k 0)) := by
            rw [World.ownsRow.cellAt R7.out k (by omega)]
            simp [intsZ, hlt]
          have OS := Lib.hid (ones_snoc R k hlt)
          have ob : ones (R.take k) ≤ 2 := by
            have h1 : ones (R.take k) ≤ (R.take k).length := List.length_filter_le _ _
            have h2 : (R.take k).length ≤ R.length := List.length_take_le' _ _
            omega
          generalize R.getD k 0 = x9 at *
          by_cases hx9 : (x9 == 1) = true
          · go_wp2_with fail
            go_round
            case rel => exact ⟨k + 1, by omega, by rw [OS.out, if_pos hx9]; go_num, by go_num⟩
            case measure => simp [intOf]; omega
          · have hx8 : (x9 == 1) = false := by simpa using hx9
            have HX := Lib.hid hx9
            clear hx9
            go_wp2_with fail
            go_round
            case rel => exact ⟨k + 1, by omega, by rw [OS.out, if_neg HX.out]; go_num, by go_num⟩
            case measure => simp [intOf]; omega
        · obtain rfl : k = R.length := by omega
          have e2 : ¬ ((R.length : Nat) : Int) < ((R.length : Nat) : Int) := by omega
          rw [List.take_length, Q4.out]
          have e3 : ((L.length : Nat) : Int) + ((R.length : Nat) : Int) = 2 := by have := Q5.out; omega
          go_wp2_with fail
          refine (told_any w7).mono ?_
          rintro e w8 ⟨rfl, h8⟩
          have X8 := Lib.hid (C7.out.trans h8)
          have H8 := Lib.hid (H7.out.ex h8)
          clear h8
          go_wp2_with fail
          refine (ts_len H8.out).mono ?_
          rintro e w' ⟨rfl, rfl⟩
          go_wp2_with fail
          go_ret
          exact ⟨rfl, X8.out⟩

theorem walk_TimerTwice (a b c : Int) (w0 : (Lit.int .i64 a).wf = true) (w1 : (Lit.int .i64 b).wf = true) (w2 : (Lit.int .i64 c).wf = true) (w : World) :
    Calls Try.prog 4 #[.int .i64 a, .int .i64 b, .int .i64 c] w fun e w' => e = .returned (.bool true) ∧ Below w.heap.size w w' := twice_walk a b c w

end Go.Proofs.Ytofdlbnlfeocoaa
