/- StatePlays: the walk. -/
import Derived.Test.YtbdnpjbookhebaaPlays12B
namespace Go.Proofs.Ytbdnpjbookhebaa
open Go.RowKit
set_option linter.unusedVariables false

set_option maxRecDepth 10000 in
set_option maxHeartbeats 16000000 in
theorem plays_walk (a : Option Addr) (len cap : Nat) (w : World)
    (hl : len ≤ cap) (hm : cap ≤ 9223372036854775807) (hb : len = 0 ∨ ∃ b off, a = some ⟨b, off, none⟩ ∧ b < w.heap.size ∧ ∀ i, i < len → ∃ x y z : Int, w.cell? ⟨b, off + i * 3, none⟩ = some (.int .i64 x) ∧ w.cell? ⟨b, off + i * 3 + 1, none⟩ = some (.int .i64 y) ∧ w.cell? ⟨b, off + i * 3 + 2, none⟩ = some (.int .i64 z)) :
    Calls Try.prog 3 #[.slice a len cap] w fun e w' => e = .returned (.bool true) ∧ Below w.heap.size w w' := by
  obtain ⟨i0, hi, hz0, hz1, hz2⟩ := info_parts info_int
  have Hb := Lib.hid hb
  clear hb
  go_enter Try.func3, Try.ntmps3
  go_wp2_with fail
  refine (new_any _).mono ?_
  rintro e w1 ⟨rfl, h1, hx1, -⟩
  have T0 : Hid (Two w w1 (.slice none 0 0) (.slice none 0 0) [] []) := Lib.hid ⟨h1, World.ownsRow_nil _ _ _ _, (fun g hg => by cases hg), hx1⟩
  clear h1 hx1
  go_wp2_with fail
  go_loopw [4, 5] (fun lv iv wr => ∃ (i : Nat) (L : List Nat) (v : Value), i ≤ 100 ∧ i ≤ len ∧ iv = .int .i64 i ∧ L.length ≤ i ∧ Two w wr v lv L L) (fun _ iv _ => 100 - (intOf iv).toNat)
  case atStart => exact ⟨0, [], _, by omega, by omega, rfl, by simp, T0.out⟩
  case round =>
    obtain ⟨i, L, v, hi1, hi2, rfl, hLi, htw⟩ := hrel
    clear T0
    obtain ⟨A, C, rfl, c1, c2, -, hcell⟩ := htw.cells
    have T := Lib.hid htw
    have TC := Lib.hid hcell
    obtain ⟨n, hn⟩ : ∃ n, L.length = n := ⟨_, rfl⟩
    rw [hn] at T TC c1 hLi ⊢
    have HN := Lib.hid hn
    clear htw hcell hn
    by_cases hk : i < len ∧ i < 100
    · obtain ⟨k1, k2⟩ := hk
      obtain ⟨b, off, rfl, hbb, hops⟩ := Hb.out.resolve_left (by omega)
      obtain ⟨kd, G, To, o0, o1, o2⟩ := hops i k1
      have hbw : b < wr.heap.size := Nat.lt_of_lt_of_le hbb T.out.below.size
      have d0 : wr.cell? ⟨b, off + i * 3, none⟩ = some (.int .i64 kd) := (T.out.below.cell (p := ⟨b, off + i * 3, none⟩) hbb).trans o0
      have d1 : wr.cell? ⟨b, off + i * 3 + 1, none⟩ = some (.int .i64 G) := (T.out.below.cell (p := ⟨b, off + i * 3 + 1, none⟩) hbb).trans o1
      have d2 : wr.cell? ⟨b, off + i * 3 + 2, none⟩ = some (.int .i64 To) := (T.out.below.cell (p := ⟨b, off + i * 3 + 2, none⟩) hbb).trans o2
      clear o0 o1 o2 hops
      obtain ⟨r, hr⟩ : ∃ r, kd.tmod 3 = r := ⟨_, rfl⟩
      have r1 : -3 < r := by rw [← hr]; have := Int.lt_tmod_of_pos kd (b := 3) (by omega); omega
      have r2 : r < 3 := by rw [← hr]; exact Int.tmod_lt_of_pos kd (by omega)
      have ways : (((r + 3) % 3 == 0) = true) ∨ (((r + 3) % 3 == 0) = false ∧ G < 0) ∨ (((r + 3) % 3 == 0) = false ∧ 0 ≤ G ∧ (n : Int) ≤ G) ∨ (((r + 3) % 3 == 0) = false ∧ ∃ gN : Nat, G = gN ∧ gN < n) := by
        by_cases hsp : (r + 3) % 3 = 0
        · exact .inl (by simpa using hsp)
        · have hsp' : ((r + 3) % 3 == 0) = false := by simpa using hsp
          by_cases g1 : G < 0
          · exact .inr (.inl ⟨hsp', g1⟩)
          · by_cases g2 : (n : Int) ≤ G
            · exact .inr (.inr (.inl ⟨hsp', by omega, g2⟩))
            · exact .inr (.inr (.inr ⟨hsp', G.toNat, by omega, by omega⟩))
      have n100 : n ≤ 100 := by omega
      have T1 := Lib.hid (T.out.ex (Ex.made wr (.cells #[.int .i64 kd, .int .i64 G, .int .i64 To] 27)))
      rcases ways with hsp | ⟨hsp, g1⟩ | ⟨hsp, g1, g2⟩ | ⟨hsp, gN, rfl, g1⟩
      -- Spawn
      go_wp2_with fail
      have hs := spawn_any T1.out.st (by rw [HN.out]; omega)
      rw [HN.out] at hs
      refine hs.mono ?_
      rintro e w2 ⟨rfl, hn⟩
      obtain ⟨v4, ht2⟩ := T1.out.nxt hn
      have T2 := Lib.hid ht2
      have HR : Hid (w2.ownsRow (w.heap.size + 1) 3 1 (.slice A n C) n (ints L)) := by have := T2.out.row; rw [HN.out] at this; exact Lib.hid this
      have hws : w.heap.size + 1 ≤ w2.heap.size := by have := T2.out.st.box.lt; omega
      clear hs hn ht2 T1
      go_wp2_with (at_builtin; refine wpList_append_mine _ rfl (.tmp 52) (.tmp 53) 25 rfl (w.heap.size + 1) 3 i0 (.int .i64 0) 1 8 Try.underlying25 hi hz0 hz1 hz2 rfl (by decide) _ _ _ rfl (HR.out.alloc _) ⟨w2.heap.size, 0, none⟩ 1 1 [.int .i64 1] rfl rfl (one_new _ _ _) (one_cell rfl) (by unfold maxLen; omega) (by omega) (row_alloc_base w2 _ hws) (by omega) ?_)
      intro g' C4 wt hown hg hor hbg hlt' hc4 hC4
      have TT : Hid (∃ L4, L4.length = n + 1 ∧ Two w wt v4 (.slice (some ⟨g', 0, none⟩) (n + 1) C4) L4 L4) := Lib.hid ⟨L ++ [1], by simp [HN.out], Two.app T2.out HN.out hown hg (by simpa using hor)⟩
      clear hown hg hor T2 HR hlt' hbg hws d0 d1 d2 T TC HN
      go_wp2_with fail
      obtain ⟨n4, hn4⟩ : ∃ n4, n4 = n + 1 := ⟨_, rfl⟩
      obtain ⟨A4, hA4⟩ : ∃ A4, A4 = some (⟨g', 0, none⟩ : Addr) := ⟨_, rfl⟩
      rw [← hn4] at TT hc4 ⊢
      rw [← hA4] at TT ⊢
      have hn4i : n4 ≤ i + 1 := by omega
      clear hn4 hA4 c1
      obtain ⟨L4, hL4, h4⟩ := TT.out
      have HN := Lib.hid hL4
      have T := Lib.hid h4
      clear hL4 h4 TT
      rotate_left
      go_wp2_with fail
      refine (move_none T1.out.st G To (by rw [HN.out]; omega)).mono ?_
      rintro e w' ⟨rfl, rfl⟩
      go_wp2_with fail
      obtain ⟨wt, hwt⟩ : ∃ wt, wt = wr.alloc (.cells #[.int .i64 kd, .int .i64 G, .int .i64 To] 27) := ⟨_, rfl⟩
      rw [← hwt] at T1 ⊢
      clear hwt d0 d1 d2 T TC
      obtain ⟨v4, hv4⟩ : ∃ v4, v4 = v := ⟨_, rfl⟩
      have T := T1
      rw [← hv4] at T
      have hn4i : n ≤ i + 1 := by omega
      obtain ⟨n4, rfl⟩ : ∃ n4, n4 = n := ⟨_, rfl⟩
      obtain ⟨A4, rfl⟩ : ∃ A4, A4 = A := ⟨_, rfl⟩
      obtain ⟨C4, rfl⟩ : ∃ C4, C4 = C := ⟨_, rfl⟩
      obtain ⟨L4, rfl⟩ : ∃ L4, L4 = L := ⟨_, rfl⟩
      have hc4 := c1
      have hC4 := c2
      clear hv4 T1
      rotate_left
      go_wp2_with fail
      refine (move_none T1.out.st G To (by rw [HN.out]; omega)).mono ?_
      rintro e w' ⟨rfl, rfl⟩
      go_wp2_with fail
      obtain ⟨wt, hwt⟩ : ∃ wt, wt = wr.alloc (.cells #[.int .i64 kd, .int .i64 G, .int .i64 To] 27) := ⟨_, rfl⟩
      rw [← hwt] at T1 ⊢
      clear hwt d0 d1 d2 T TC
      obtain ⟨v4, hv4⟩ : ∃ v4, v4 = v := ⟨_, rfl⟩
      have T := T1
      rw [← hv4] at T
      have hn4i : n ≤ i + 1 := by omega
      obtain ⟨n4, rfl⟩ : ∃ n4, n4 = n := ⟨_, rfl⟩
      obtain ⟨A4, rfl⟩ : ∃ A4, A4 = A := ⟨_, rfl⟩
      obtain ⟨C4, rfl⟩ : ∃ C4, C4 = C := ⟨_, rfl⟩
      obtain ⟨L4, rfl⟩ : ∃ L4, L4 = L := ⟨_, rfl⟩
      have hc4 := c1
      have hC4 := c2
      clear hv4 T1
      rotate_left
      -- a goroutine that there is
      obtain ⟨gb, rfl, gb1, gb2, gb3⟩ := TC.out gN g1
      obtain ⟨s, hs⟩ : ∃ s, L.getD gN 0 = s := ⟨_, rfl⟩
      rw [hs] at gb2
      have HS := Lib.hid hs
      clear hs
      have gi1 : (0 : Int) ≤ (gN : Int) := by omega
      have gi2 : (gN : Int) < (n : Int) := by omega
      go_upto_region 17 with fail
      have e0 := Ex.made wr (.cells #[.int .i64 kd, .int .i64 (gN : Nat), .int .i64 To] 27)
      have bo := Box.fresh wr #[.int .i64 kd, .int .i64 (gN : Nat), .int .i64 To] 27
      obtain ⟨W1, hW1⟩ : ∃ W1, W1 = wr.alloc (.cells #[.int .i64 kd, .int .i64 (gN : Nat), .int .i64 To] 27) := ⟨_, rfl⟩
      rw [← hW1] at T1 e0 bo ⊢
      have xc : ∀ x : Out W1, x.w.cell? ⟨gb, gN, none⟩ = some (.int .i64 (s : Nat)) := fun x => (x.2.cell (p := ⟨gb, gN, none⟩) (Nat.lt_of_lt_of_le gb1 e0.size)).trans ((e0.cell (p := ⟨gb, gN, none⟩) gb1).trans gb2)
      have xo1 : ∀ x : Out W1, x.w.cell? ⟨wr.heap.size, 1, none⟩ = some (.int .i64 (gN : Nat)) := bo.out 1
      have xo2 : ∀ x : Out W1, x.w.cell? ⟨wr.heap.size, 2, none⟩ = some (.int .i64 To) := bo.out 2
      have BO := Lib.hid bo
      have GF : Hid (∀ x : Out W1, x.w.frozen? ⟨gb, gN, none⟩ = false) := Lib.hid fun x => (x.2.frozen (p := ⟨gb, gN, none⟩) (Nat.lt_of_lt_of_le gb1 e0.size)).trans ((e0.frozen (p := ⟨gb, gN, none⟩) gb1).trans gb3)
      obtain ⟨m, hmb⟩ : ∃ m, mayB (s : Nat) To = m := ⟨_, rfl⟩
      have KM : Hid (∀ w, Calls Try.prog 9 #[.int .i64 (s : Nat), .int .i64 To] w fun e w' => e = .returned (.bool m) ∧ w = w') := Lib.hid fun w => by have := rmay_any (s : Nat) To w; rw [hmb] at this; exact this
      have HMB := Lib.hid hmb
      have gO : gb < wr.heap.size := gb1
      clear hmb bo e0 hW1 d0 d1 d2 gb2 gb3
      refine wp_region_ex (by kernel_rfl) (by kernel_rfl) ?_
      try simp only [List.append]
      repeat (go_big_quiet_step ((go_at_call 9; exact quiet_eq (KM.out _))))
      refine wpQuiet_nil ?_
      rintro w4 ⟨⟨wz, hw⟩, rfl⟩
      have y1 : w4.cell? ⟨gb, gN, none⟩ = some (.int .i64 (s : Nat)) := xc ⟨w4, hw⟩
      have y2 : w4.cell? ⟨wr.heap.size, 1, none⟩ = some (.int .i64 (gN : Nat)) := xo1 ⟨w4, hw⟩
      have y3 : w4.cell? ⟨wr.heap.size, 2, none⟩ = some (.int .i64 To) := xo2 ⟨w4, hw⟩
      have y4 : w4.frozen? ⟨gb, gN, none⟩ = false := GF.out ⟨w4, hw⟩
      have T4 := Lib.hid (T1.out.ex hw)
      clear hw xc xo1 xo2 GF BO T1 T TC
      cases m
      -- it may not
      go_wp2_with fail
      refine (move_no T4.out.st gN (by rw [HN.out]; exact g1) s To HS.out HMB.out).mono ?_
      rintro e wt ⟨rfl, hx⟩
      have T := Lib.hid (T4.out.ex hx)
      clear hx T4 y1 y2 y3 y4
      go_wp2_with fail
      obtain ⟨v4, hv4⟩ : ∃ v4, v4 = v := ⟨_, rfl⟩
      rw [← hv4] at T
      have hn4i : n ≤ i + 1 := by omega
      obtain ⟨n4, rfl⟩ : ∃ n4, n4 = n := ⟨_, rfl⟩
      obtain ⟨A4, hA4⟩ : ∃ A4, A4 = some (⟨gb, 0, none⟩ : Addr) := ⟨_, rfl⟩
      rw [← hA4] at T ⊢
      obtain ⟨C4, rfl⟩ : ∃ C4, C4 = C := ⟨_, rfl⟩
      obtain ⟨L4, rfl⟩ : ∃ L4, L4 = L := ⟨_, rfl⟩
      have hc4 := c1
      have hC4 := c2
      clear hv4 hA4
      rotate_left
      -- it may
      obtain ⟨tN, rfl⟩ : ∃ tN : Nat, To = (tN : Int) := by
        have := HMB.out
        unfold mayB at this
        have := of_decide_eq_true this
        exact ⟨To.toNat, by omega⟩
      go_wp2_with fail
      have T5 := Lib.hid (T4.out.put HN.out gN tN)
      refine (move_yes T5.out.st gN (by rw [HN.out]; exact g1) s tN HS.out HMB.out).mono ?_
      rintro e wt ⟨rfl, hn⟩
      obtain ⟨v4, ht⟩ := T5.out.nxt hn
      have T := Lib.hid ht
      clear ht hn T4 T5 y1 y2 y3 y4
      go_wp2_with fail
      have hn4i : n ≤ i + 1 := by omega
      have HN' : Hid ((L.set gN tN).length = n) := Lib.hid (by rw [List.length_set]; exact HN.out)
      obtain ⟨n4, rfl⟩ : ∃ n4, n4 = n := ⟨_, rfl⟩
      obtain ⟨A4, hA4⟩ : ∃ A4, A4 = some (⟨gb, 0, none⟩ : Addr) := ⟨_, rfl⟩
      rw [← hA4] at T ⊢
      obtain ⟨C4, rfl⟩ : ∃ C4, C4 = C := ⟨_, rfl⟩
      obtain ⟨L4, hL4⟩ : ∃ L4, L4 = L.set gN tN := ⟨_, rfl⟩
      rw [← hL4] at T HN'
      clear HN
      have HN := HN'
      have hc4 := c1
      have hC4 := c2
      clear hL4 hA4 HN'
      rotate_left
      all_goals
        have hcell : Hid (∀ j, j < n4 → ∃ g, A4 = some ⟨g, 0, none⟩ ∧ g < wt.heap.size ∧ wt.cell? ⟨g, j, none⟩ = some (.int .i64 (L4.getD j 0 : Nat)) ∧ wt.frozen? ⟨g, j, none⟩ = false) := by
          obtain ⟨A', C', e1, -, -, -, hc⟩ := T.out.cells
          rw [HN.out] at e1 hc
          injection e1 with e1 _ e2
          subst e1
          exact Lib.hid hc
        have n4b : n4 ≤ 100 := by omega
        go_loop [10, 11] (fun sv kv => ∃ k : Nat, k ≤ 5 ∧ kv = .int .i64 (k + 1) ∧ sv = .int .i64 (sumTo L4 k : Nat)) (fun _ kv => 6 - (intOf kv).toNat)
        case atStart => exact ⟨0, by omega, rfl, rfl⟩
        case round =>
          obtain ⟨k, hk5, rfl, rfl⟩ := hrel
          have hsl : sumTo L4 k ≤ 1000 := by
            have := sum_le L4 k hk5
            rw [HN.out] at this
            exact Nat.le_trans this (Nat.le_trans (Nat.mul_le_mul hk5 n4b) (by omega))
          obtain ⟨S, hS⟩ : ∃ S, sumTo L4 k = S := ⟨_, rfl⟩
          rw [hS] at hsl ⊢
          have HS5 := Lib.hid hS
          clear hS
          by_cases hk : k < 5
          · go_wp2_with fail
            go_loop [12, 13] (fun nv jv => ∃ j : Nat, j ≤ n4 ∧ jv = .int .i64 j ∧ nv = .int .i64 ((L4.take j).count (k + 1) : Nat)) (fun _ jv => n4 - (intOf jv).toNat)
            case atStart => exact ⟨0, by omega, rfl, rfl⟩
            case round =>
              obtain ⟨j, hj, rfl, rfl⟩ := hrel
              have hcl : (L4.take j).count (k + 1) ≤ 100 := Nat.le_trans List.count_le_length (by rw [List.length_take]; omega)
              obtain ⟨c, hc5⟩ : ∃ c, (L4.take j).count (k + 1) = c := ⟨_, rfl⟩
              rw [hc5] at hcl ⊢
              have HC := Lib.hid hc5
              clear hc5
              by_cases hjn : j < n4
              · obtain ⟨g, rfl, q1, q2, -⟩ := hcell.out j hjn
                have hlt : j < L4.length := by rw [HN.out]; exact hjn
                have htk : Hid ((L4.take (j + 1)).count (k + 1) = c + (if L4.getD j 0 = k + 1 then 1 else 0)) := by
                  rw [List.take_succ_eq_append_getElem hlt, List.count_append, HC.out]
                  apply Lib.hid
                  congr 1
                  by_cases e5 : L4[j] = k + 1 <;> simp [hlt, e5]
                obtain ⟨q, hq⟩ : ∃ q, L4.getD j 0 = q := ⟨_, rfl⟩
                rw [hq] at q2 htk
                clear hq hlt
                by_cases hq5 : q = k + 1
                · rw [if_pos hq5] at htk
                  have hb5 : ((q : Int) == (k : Int) + 1) = true := by simp; omega
                  clear hq5
                  go_wp2
                  go_round
                  case rel => exact ⟨j + 1, by omega, by go_num, by rw [htk.out]; go_num⟩
                  case measure => simp [intOf]; omega
                · rw [if_neg hq5] at htk
                  have hb5 : ((q : Int) == (k : Int) + 1) = false := by simp; omega
                  clear hq5
                  go_wp2
                  go_round
                  case rel => exact ⟨j + 1, by omega, by go_num, by rw [htk.out]; go_num⟩
                  case measure => simp [intOf]; omega
              · obtain rfl : j = n4 := by omega
                have hcc : Hid (L4.count (k + 1) = c) := by
                  have := HC.out
                  rw [List.take_of_length_le (by rw [HN.out]; omega)] at this
                  exact Lib.hid this
                go_wp2_with fail
                have kc := count_any T.out.st (k + 1) (by omega) (by omega)
                rw [hcc.out] at kc
                refine kc.mono ?_
                rintro e w' ⟨rfl, rfl⟩
                clear kc
                go_wp2_with fail
                go_round
                case rel => exact ⟨k + 1, by omega, by go_num, by simp only [sumTo, HS5.out, hcc.out]; go_num⟩
                case measure => simp [intOf]; omega
          · obtain rfl : k = 5 := by omega
            have hSn : S = n4 := by
              rw [← HS5.out, ← HN.out]
              exact sum_all T.out.st.ok
            subst hSn
            go_wp2_with fail
            have kl := len_any T.out.st
            rw [HN.out] at kl
            refine kl.mono ?_
            rintro e w' ⟨rfl, rfl⟩
            clear kl
            go_wp2_with fail
            refine (count_out T.out.st 0 (.inl (by omega))).mono ?_
            rintro e w' ⟨rfl, rfl⟩
            go_wp2_with fail
            refine (count_out T.out.st (-1) (.inl (by omega))).mono ?_
            rintro e w' ⟨rfl, rfl⟩
            go_wp2_with fail
            refine (count_out T.out.st 6 (.inr ⟨by omega, by omega⟩)).mono ?_
            rintro e w' ⟨rfl, rfl⟩
            go_wp2_with fail
            go_roundw
            case rel => exact ⟨i + 1, L4, v4, by omega, by omega, by go_num, by rw [HN.out]; omega, T.out⟩
            case measure => simp [intOf]; omega
    · obtain ⟨wo, rfl⟩ : ∃ wo : World, wo = wr := ⟨_, rfl⟩
      have n100 : n ≤ 100 := by omega
      rcases (by omega : ¬ i < len ∨ (i < len ∧ ¬ i < 100)) with k1 | ⟨k1, k2⟩
      all_goals
        go_wp2_with fail
        go_loopw [14, 15] (fun av jv ws => ∃ j : Nat, j ≤ n ∧ jv = .int .i64 j ∧ ws.ownsRow wo.heap.size 3 1 av (aliveTo L j).length (ints (aliveTo L j)) ∧ Ex wo ws) (fun _ jv _ => n - (intOf jv).toNat)
        case atStart => exact ⟨0, Nat.zero_le _, rfl, World.ownsRow_nil _ _ _ _, Ex.refl _⟩
        case round =>
          obtain ⟨j, hj, rfl, hown, hx⟩ := hrel
          have HO := Lib.hid hown
          have HX := Lib.hid hx
          clear hown hx
          by_cases hjn : j < n
          · obtain ⟨g, rfl, q1, q2, -⟩ := TC.out j hjn
            obtain ⟨s, hs⟩ : ∃ s, L.getD j 0 = s := ⟨_, rfl⟩
            rw [hs] at q2
            have HS := Lib.hid hs
            have KO : Hid (∀ x : Out wr, Calls Try.prog 13 #[.pointer (some ⟨w.heap.size, 0, none⟩), .int .i64 j] x.w fun e w' => e = .returned (.int .i64 (s : Nat)) ∧ x.w = w') :=
              Lib.hid fun x => of_in ((T.out.st.ex HX.out).ex x.2) j (by rw [HN.out]; exact hjn) s hs
            have xc : ∀ x : Out wr, x.w.cell? ⟨g, j, none⟩ = some (.int .i64 (s : Nat)) := fun x => (x.2.cell (p := ⟨g, j, none⟩) (Nat.lt_of_lt_of_le q1 HX.out.size)).trans ((HX.out.cell (p := ⟨g, j, none⟩) q1).trans q2)
            have j0 : (0 : Int) ≤ (j : Int) := by omega
            have j1 : (j : Int) < (n : Int) := by omega
            have hal := alive_le L j
            clear hs q2
            go_wp2_with fail
            refine wp_region_ex (by kernel_rfl) (by kernel_rfl) ?_
            try simp only [List.append]
            repeat (go_big_quiet_step ((go_at_call 13; exact quiet_eq (KO.out _))))
            refine wpQuiet_nil ?_
            rintro w4 ⟨⟨wz, hw⟩, rfl⟩
            have y1 : w4.cell? ⟨g, j, none⟩ = some (.int .i64 (s : Nat)) := xc ⟨w4, hw⟩
            have HO4 := Lib.hid (row_chg (F := fun _ => False) HO.out (hw.chg _) (fun _ _ h => h))
            have HX4 := Lib.hid (HX.out.trans hw)
            clear hw xc KO HO HX
            by_cases h5 : s = 5
            · subst h5
              go_wp2_with fail
              go_roundw
              case rel => exact ⟨j + 1, by omega, by go_num, by rw [alive_miss HS.out]; exact HO4.out, HX4.out⟩
              case measure => simp [intOf]; omega
            · have h5' : ((s : Int) != 5) = true := by simp; omega
              go_wp2_with (at_builtin; refine wpList_append_mine _ rfl (.tmp 151) (.tmp 153) 25 rfl wo.heap.size 3 i0 (.int .i64 0) 1 8 Try.underlying25 hi hz0 hz1 hz2 rfl (by decide) _ _ _ rfl (HO4.out.alloc _) ⟨w4.heap.size, 0, none⟩ 1 1 [.int .i64 j] rfl rfl (one_new _ _ _) (one_cell rfl) (by unfold maxLen; omega) (by omega) (row_alloc_base w4 _ HX4.out.size) (by omega) ?_)
              intro g' cap' w5 hown hg hor hbg hlt' hc1 hc2
              have HO5 := Lib.hid hown
              have HX5 := Lib.hid (ex_grown (HO4.out.alloc _) (Below.alloc HX4.out HX4.out.size _) (row_alloc_base w4 _ HX4.out.size) hg)
              clear hown hg hor
              go_wp2_with fail
              go_roundw
              case rel =>
                refine ⟨j + 1, by omega, by go_num, ?_, HX5.out⟩
                rw [alive_hit (by rw [HS.out]; exact h5), List.length_append, ← ints_app]
                exact HO5.out
              case measure => simp [intOf]; omega
          · obtain rfl : n = j := by omega
            have T1 := Lib.hid (T.out.ex HX.out)
            have hm1 := alive_le L n
            obtain ⟨m, hmm⟩ : ∃ m, (aliveTo L n).length = m := ⟨_, rfl⟩
            rw [hmm] at hm1
            have R1 := row_of HO.out
            rw [hmm] at R1
            have HR1 := Lib.hid R1
            have HMM : Hid ((aliveTo L L.length).length = m) := Lib.hid (by rw [HN.out]; exact hmm)
            have HL2 : Hid (aliveTo L L.length = aliveTo L n) := Lib.hid (by rw [HN.out])
            clear hmm R1 HO
            go_wp2_with fail
            refine (told_any _).mono ?_
            rintro e w5 ⟨rfl, hx⟩
            have T2 := Lib.hid (T1.out.ex hx)
            have HR2 := Lib.hid (HR1.out.ex hx)
            clear hx T1 HR1
            go_wp2_with fail
            refine (alive_any T2.out.st).mono ?_
            intro e w6 ha
            obtain ⟨a6, cap6, rfl, z1, z2, ho6, hx⟩ := alive_shape ha HMM.out
            have R6 : Hid (RowOf w6 (.slice a6 m cap6) m (aliveTo L n)) := by
              have := row_of (l := aliveTo L L.length) (by rw [HMM.out]; exact ho6)
              rw [HMM.out, HL2.out] at this
              exact Lib.hid this
            have T3 := Lib.hid (T2.out.ex hx)
            have HR3 := Lib.hid (HR2.out.ex hx)
            clear hx ha ho6 T2 HR2
            go_wp2_with fail
            refine (ints_any (n := m) (l := aliveTo L n) (by omega) R6.out HR3.out).mono ?_
            rintro e w7 ⟨rfl, hx⟩
            have T4 := Lib.hid (T3.out.ex hx)
            clear hx T3 HR3 R6
            go_wp2_with fail
            refine (of_out T4.out.st (-1) (.inl (by omega))).mono ?_
            rintro e w' ⟨rfl, rfl⟩
            go_wp2_with fail
            go_ret
            exact ⟨rfl, T4.out.below⟩

end Go.Proofs.Ytbdnpjbookhebaa
