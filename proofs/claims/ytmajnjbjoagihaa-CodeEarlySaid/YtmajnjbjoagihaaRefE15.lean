/- The document's Encode. -/
import Derived.Test.YtmajnjbjoagihaaRefM15
import Derived.Test.YtmajnjbjoagihaaEnc15
namespace Go.Proofs.Ytmajnjbjoagihaa
open Go.RowKit
set_option linter.unusedVariables false
set_option linter.unusedSimpArgs false

def EncSDone (w : World) (g : Int) (F : List (List I4)) (e : Ending) (w' : World) : Prop :=
  (mayI g F = 0 ∧ e = .returned (.tuple #[.string (strOfNums (encB g F)), .int .i64 0]) ∧ Ex w w') ∨
  (mayI g F ≠ 0 ∧ e = .returned (.tuple #[.string ⟨#[]⟩, .int .i64 1]) ∧ Ex w w')

set_option maxRecDepth 20000 in
set_option maxHeartbeats 6400000 in
theorem rencode_any {w : World} {g : Int} {fv : Value} {F : List (List I4)} (h : RdP w fv F) :
    Calls Try.prog 9 #[.agg #[.int .i64 g, fv]] w (EncSDone w g F) := by
  obtain ⟨fa, cap, rfl⟩ := h.val
  have HP := Lib.hid h
  clear h
  go_enter Try.func9, Try.ntmps9
  go_upto_region 1 with fail
  have e0 := Ex.made w (.cells #[.int .i64 g, .slice fa F.length cap] 24)
  have b0 := Box.fresh w #[.int .i64 g, .slice fa F.length cap] 24
  have p0 := HP.out.ex e0
  obtain ⟨W, hW⟩ : ∃ W, W = w.alloc (.cells #[.int .i64 g, .slice fa F.length cap] 24) := ⟨_, rfl⟩
  rw [← hW] at e0 b0 p0 ⊢
  have E0 := Lib.hid e0
  have B0 := Lib.hid b0
  have P0 := Lib.hid p0
  clear hW e0 b0 p0
  have x0 : W.cell? ⟨w.heap.size, 0, none⟩ = some (.int .i64 g) := B0.out.cell 0
  have x1 : W.cell? ⟨w.heap.size, 1, none⟩ = some (.slice fa F.length cap) := B0.out.cell 1
  go_wp2_with fail
  refine (rmay_any P0.out).mono ?_
  rintro e w1 ⟨rfl, hx1⟩
  have E1 := Lib.hid (E0.out.trans hx1)
  have P1 := Lib.hid (P0.out.ex hx1)
  have B1 := Lib.hid (B0.out.ex hx1)
  clear hx1 x0 x1 B0 P0 E0
  obtain ⟨m, hm⟩ : ∃ m, mayI g F = m := ⟨_, rfl⟩
  rw [hm]
  have HM := Lib.hid hm
  by_cases h0 : m = 0
  · subst h0
    have MB := Lib.hid (may_zero hm)
    have n1 := MB.out.n1
    have n2 := MB.out.n2
    have g1 := MB.out.g1
    have g2 := MB.out.g2
    have n1' : (1 : Int) ≤ (F.length : Int) := by omega
    have n2' : (F.length : Int) ≤ 16 := by omega
    have x0 : w1.cell? ⟨w.heap.size, 0, none⟩ = some (.int .i64 g) := B1.out.cell 0
    have x1 : w1.cell? ⟨w.heap.size, 1, none⟩ = some (.slice fa F.length cap) := B1.out.cell 1
    clear hm
    go_upto_region 4 with fail
    have y2 := Ex.made w1 (.cells #[.int .u8 (F.length : Int), .int .u8 g] 5)
    have r2 := row_block w1 (base := w.heap.size + 1) (e := 5) #[.int .u8 (F.length : Int), .int .u8 g] 2 rfl (by have := B1.out.lt; omega) (by unfold maxLen; omega)
    have E2 := Lib.hid (E1.out.trans y2)
    have B2 := Lib.hid (B1.out.ex y2)
    obtain ⟨rb, hrb⟩ : ∃ b, w1.heap.size = b := ⟨_, rfl⟩
    rw [hrb] at r2 ⊢
    obtain ⟨W2, hW2⟩ : ∃ W, W = w1.alloc (.cells #[.int .u8 (F.length : Int), .int .u8 g] 5) := ⟨_, rfl⟩
    rw [← hW2] at y2 r2 E2 B2 ⊢
    have R2 : Hid (W2.ownsRow (w.heap.size + 1) 5 1 (.slice (some ⟨rb, 0, none⟩) 2 2) [(F.length : Int), g].length (bV [(F.length : Int), g])) := Lib.hid r2
    clear hW2 hrb y2 r2 E1 B1 P1 x0 x1
    have x0 : W2.cell? ⟨w.heap.size, 0, none⟩ = some (.int .i64 g) := B2.out.cell 0
    have x1 : W2.cell? ⟨w.heap.size, 1, none⟩ = some (.slice fa F.length cap) := B2.out.cell 1
    go_wp2_with fail
    go_loopw [4, 5] (fun v iv wr => ∃ (i : Nat) (bs : List Int), i ≤ F.length ∧ iv = .int .i64 (i : Int) ∧ wr.ownsRow (w.heap.size + 1) 5 1 v bs.length (bV bs) ∧ Ex w wr ∧ Box wr w.heap.size #[.int .i64 g, .slice fa F.length cap] 24 ∧ bs ++ (F.drop i).flatMap funB = encB g F ∧ bs.length ≤ 2 + 257 * i) (fun v iv _ => F.length - (intOf iv).toNat)
    case atStart => exact ⟨0, [(F.length : Int), g], by omega, rfl, R2.out, E2.out, B2.out, rfl, by simp⟩
    case round =>
      obtain ⟨i, bs, hi, rfl, hr, hx, hb, hbs, hbl⟩ := hrel
      have R := Lib.hid hr
      have X := Lib.hid hx
      have B := Lib.hid hb
      have BS := Lib.hid hbs
      clear hr hx hb hbs x0 x1 R2 E2 B2
      have x0 : wr.cell? ⟨w.heap.size, 0, none⟩ = some (.int .i64 g) := B.out.cell 0
      have x1 : wr.cell? ⟨w.heap.size, 1, none⟩ = some (.slice fa F.length cap) := B.out.cell 1
      have hz := B.out.lt
      by_cases hlt : i < F.length
      · have hlt' : (i : Int) < (F.length : Int) := by omega
        obtain ⟨l, hll⟩ := get_some hlt
        obtain ⟨gb, ob, a', cap', rfl, -, hcap, hgb, hc, hl, hI⟩ := (HP.out.ex X.out).at2 hll
        obtain ⟨gb2, ob2, a2, cap2, e1, -, -, -, hc2, -, hI2⟩ := HP.out.at2 hll
        cases e1
        have hcc := (cell_later X.out hc2).symm.trans hc
        simp only [Option.some.injEq, Value.slice.injEq] at hcc
        obtain ⟨rfl, -, rfl⟩ := hcc
        have HL := Lib.hid hlt
        have HI := Lib.hid hI2
        obtain ⟨hi0, hle⟩ := get_is hll
        have hmem : l ∈ F := hle ▸ List.getElem_mem hi0
        have ML := Lib.hid (MB.out.x1 l hmem)
        obtain ⟨hs1, hs2⟩ := MB.out.l1 l hmem
        have hs3 : (0 : Int) ≤ (l.length : Int) := by omega
        have hs4 : (l.length : Int) < 256 := by omega
        have BS2 : Hid (bs ++ (funB l ++ (F.drop (i + 1)).flatMap funB) = encB g F) := Lib.hid (by
          rw [← BS.out, List.drop_eq_getElem_cons hi0, hle, List.flatMap_cons])
        have HCC := Lib.hid hc
        have HC2 := Lib.hid hc2
        clear hlt hll hI hI2 hc2 hmem hi0 hle BS
        go_upto_region 7 with fail
        obtain ⟨i0, hi', hz0, hz1, hz2⟩ := info_parts info_u8
        go_wp2_with (at_builtin; refine wpList_append_mine _ rfl (.tmp 26) (.tmp 34) 25 rfl (w.heap.size + 1) 5 i0 (.int .u8 0) 1 1 Try.underlying25 hi' hz0 hz1 hz2 rfl (by decide) _ _ _ rfl (R.out.alloc _) ⟨wr.heap.size, 0, none⟩ 1 1 [.int .u8 (l.length : Int)] rfl rfl (one_new _ _ _) (one_cell rfl) (by unfold maxLen; omega) (by omega) (row_alloc_base wr _ (by omega)) (by omega) ?_)
        intro g' cap6 w6 hown hgrow hor hbg hlt3 hc1 hc3
        have C6 : Hid (Chg (fun k => w.heap.size + 1 ≤ k) wr w6) := Lib.hid (Chg.trans ((Ex.made wr _).chg _) (Chg.grown (F := fun k => w.heap.size + 1 ≤ k) hgrow (fun k hk => (row_base R.out k hk).1)) (fun _ _ h => h))
        have R6 : Hid (w6.ownsRow (w.heap.size + 1) 5 1 (.slice (some ⟨g', 0, none⟩) (bs.length + 1) cap6) (bs ++ [(l.length : Int)]).length (bV (bs ++ [(l.length : Int)]))) := Lib.hid (by
          rw [bV_append, List.length_append]
          exact hown)
        have X6 := Lib.hid (Below.trans X.out (C6.out.below X.out.size (fun k hk => by omega)))
        have B6 := Lib.hid (B.out.chg C6.out (by omega))
        clear hown hgrow hor hi' hz0 hz1 hz2 hc x0 x1 hz hbg hlt3 hc1 hc3 R B
        go_wp2_with fail
        go_loopw [4, 6] (fun v jv wr2 => ∃ (j : Nat) (b2 : List Int), j ≤ l.length ∧ jv = .int .i64 (j : Int) ∧ wr2.ownsRow (w.heap.size + 1) 5 1 v b2.length (bV b2) ∧ Ex w wr2 ∧ Box wr2 w.heap.size #[.int .i64 g, .slice (some ⟨gb, ob, none⟩) F.length cap] 24 ∧ b2 ++ (l.drop j).flatMap instB = bs ++ funB l ∧ b2.length = bs.length + 1 + 4 * j) (fun v jv _ => l.length - (intOf jv).toNat)
        case atStart => exact ⟨0, bs ++ [(l.length : Int)], by omega, rfl, R6.out, X6.out, B6.out, by rw [List.append_assoc]; rfl, by simp⟩
        case round =>
          obtain ⟨j, b2, hj, rfl, hr, hx, hb, hbs, hbl2⟩ := hrel
          have RR := Lib.hid hr
          have XX := Lib.hid hx
          have BB := Lib.hid hb
          have BT := Lib.hid hbs
          have HB2 := Lib.hid hbl2
          have hb3 : b2.length ≤ 6000 := by omega
          clear hr hx hb hbs R6 X6 B6 hbl2
          have hz := BB.out.lt
          have x1 : wr.cell? ⟨w.heap.size, 1, none⟩ = some (.slice (some ⟨gb, ob, none⟩) F.length cap) := BB.out.cell 1
          have hc := cell_later XX.out HC2.out
          by_cases hlt2 : j < l.length
          · have hlt2' : (j : Int) < (l.length : Int) := by omega
            obtain ⟨x, hx⟩ := get_some hlt2
            obtain ⟨ib, io, rfl, hib, z0, z1, z2, z3⟩ := (HI.out.ex XX.out).at2 hx
            have q1 : l.length ≤ cap2 := hl
            obtain ⟨hj0, hje⟩ := get_is hx
            have hmem : x ∈ l := hje ▸ List.getElem_mem hj0
            have BT2 : Hid ((b2 ++ instB x) ++ (l.drop (j + 1)).flatMap instB = bs ++ funB l) := Lib.hid (by
              rw [← BT.out, List.drop_eq_getElem_cons hj0, hje, List.flatMap_cons, List.append_assoc])
            obtain ⟨⟨m0, m1⟩, ⟨m2, m3⟩, ⟨m4, m5⟩, m6, m7⟩ := wrong_bd g2 n2' (by omega) (ML.out x hmem)
            have HJ2 := Lib.hid hlt2
            clear hx hmem hj0 hje hlt2 BT
            obtain ⟨y0, y1, y2, y3⟩ := x
            dsimp only at z0 z1 z2 z3 m0 m1 m2 m3 m4 m5 m6 m7
            go_upto_region 12 with fail
            have x9 := Ex.made wr (.cells #[.int .i64 y0, .int .i64 y1, .int .i64 y2, .int .i64 y3] 45)
            have n9 := Box.fresh wr #[.int .i64 y0, .int .i64 y1, .int .i64 y2, .int .i64 y3] 45
            have R9 := Lib.hid (RR.out.alloc (.cells #[.int .i64 y0, .int .i64 y1, .int .i64 y2, .int .i64 y3] 45))
            have X9 := Lib.hid (XX.out.trans x9)
            have B9 := Lib.hid (BB.out.ex x9)
            obtain ⟨nb, hnb⟩ : ∃ b, wr.heap.size = b := ⟨_, rfl⟩
            rw [hnb] at n9 ⊢
            obtain ⟨W9, hW9⟩ : ∃ W, W = wr.alloc (.cells #[.int .i64 y0, .int .i64 y1, .int .i64 y2, .int .i64 y3] 45) := ⟨_, rfl⟩
            rw [← hW9] at x9 n9 R9 X9 B9 ⊢
            clear hW9 hnb x9 z0 z1 z2 z3 RR XX BB hz x1 hc
            have z0 : W9.cell? ⟨nb, 0, none⟩ = some (.int .i64 y0) := n9.cell 0
            have z1 : W9.cell? ⟨nb, 1, none⟩ = some (.int .i64 y1) := n9.cell 1
            have z2 : W9.cell? ⟨nb, 2, none⟩ = some (.int .i64 y2) := n9.cell 2
            have z3 : W9.cell? ⟨nb, 3, none⟩ = some (.int .i64 y3) := n9.cell 3
            have hz := B9.out.lt
            clear n9
            obtain ⟨i0, hi', hz0, hz1, hz2⟩ := info_parts info_u8
            go_wp2_with (at_builtin; refine wpList_append_mine _ rfl (.tmp 54) (.tmp 67) 25 rfl (w.heap.size + 1) 5 i0 (.int .u8 0) 1 1 Try.underlying25 hi' hz0 hz1 hz2 rfl (by decide) _ _ _ rfl (R9.out.alloc _) ⟨W9.heap.size, 0, none⟩ 4 4 [.int .u8 y0, .int .u8 y1, .int .u8 y2, .int .u8 y3] rfl rfl (four_new _ _ _ _ _ _) (by intro u hu; simp at hu; rcases hu with rfl | rfl | rfl | rfl <;> rfl) (by unfold maxLen; omega) (by omega) (row_alloc_base W9 _ (by omega)) (by omega) ?_)
            intro g5 cap5 w5 hown hgrow hor hbg hlt3 hc1 hc3
            have C5 : Hid (Chg (fun k => w.heap.size + 1 ≤ k) W9 w5) := Lib.hid (Chg.trans ((Ex.made W9 _).chg _) (Chg.grown (F := fun k => w.heap.size + 1 ≤ k) hgrow (fun k hk => (row_base R9.out k hk).1)) (fun _ _ h => h))
            have R5 : Hid (w5.ownsRow (w.heap.size + 1) 5 1 (.slice (some ⟨g5, 0, none⟩) (b2.length + 4) cap5) (b2 ++ instB (y0, y1, y2, y3)).length (bV (b2 ++ instB (y0, y1, y2, y3)))) := Lib.hid (by
              rw [bV_append, List.length_append]
              exact hown)
            have X5 := Lib.hid (Below.trans X9.out (C5.out.below X9.out.size (fun k hk => by omega)))
            have B5 := Lib.hid (B9.out.chg C5.out (by omega))
            clear hown hgrow hor hi' hz0 hz1 hz2 z0 z1 z2 z3 hz hbg hlt3 hc1 hc3 R9 X9 B9
            go_wp2_with fail
            go_roundw
            case rel =>
              have K1 : j + 1 ≤ l.length := by have := HJ2.out; omega
              have K2 : (b2 ++ instB (y0, y1, y2, y3)).length = bs.length + 1 + 4 * (j + 1) := by
                rw [List.length_append, HB2.out]
                simp [instB]
                omega
              exact ⟨j + 1, b2 ++ instB (y0, y1, y2, y3), K1, by go_num, R5.out, X5.out, B5.out, BT2.out, K2⟩
            case measure => simp [intOf]; have := HJ2.out; omega
          · have hj3 : (l.length : Int) ≤ (j : Int) := by omega
            have hfin : b2 ++ (F.drop (i + 1)).flatMap funB = encB g F := by
              have e := BT.out
              rw [show l.drop j = [] from List.drop_eq_nil_of_le (by omega), List.flatMap_nil, List.append_nil] at e
              rw [← BS2.out, e, List.append_assoc]
            have HFIN := Lib.hid hfin
            have HB5 : b2.length ≤ 2 + 257 * (i + 1) := by have := HB2.out; omega
            clear hfin hlt2 BT
            go_wp2_with fail
            go_roundw
            case rel => exact ⟨i + 1, b2, by have := HL.out; omega, by go_num, RR.out, XX.out, BB.out, HFIN.out, HB5⟩
            case measure => simp [intOf]; have := HL.out; omega
      · have hlt' : (F.length : Int) ≤ (i : Int) := by omega
        have hfin : bs = encB g F := by
          rw [← BS.out, List.drop_eq_nil_of_le (by omega)]
          simp
        have HFIN := Lib.hid hfin
        clear hfin hlt BS
        have h7 := (encB_length MB.out).1
        obtain ⟨rb, rc, rfl⟩ : ∃ r c, u4 = .slice (some ⟨r, 0, none⟩) bs.length c := by
          rcases row_shape R.out with ⟨-, h2, -⟩ | ⟨r, c, h1, -⟩
          · rw [HFIN.out] at h2; omega
          · exact ⟨r, c, h1⟩
        have hcv := run_convert_bytes_arg (P := Try.prog) wr 25 5 Try.underlying25 Try.underlying5 rb 0 bs.length rc bs rfl (fun i hi => by
          rw [World.ownsRow.cellAt R.out (0 + i) (by omega), Nat.zero_add]
          simp [bV, hi]) 9 Try.underlying9
        go_wp2_with fail
        go_ret2
        exact .inl ⟨HM.out, by rw [← HFIN.out]; rfl, X.out⟩
  · have h1 : (m == 0) = false := by simpa using h0
    have HM0 : Hid (mayI g F ≠ 0) := Lib.hid (by rw [HM.out]; exact h0)
    clear hm h0
    go_wp2_with fail
    go_ret2
    exact .inr ⟨HM0.out, rfl, E1.out⟩

end Go.Proofs.Ytmajnjbjoagihaa
