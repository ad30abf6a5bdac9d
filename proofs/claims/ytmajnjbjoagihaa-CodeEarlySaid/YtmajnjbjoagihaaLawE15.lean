/- CodeEarly. -/
import Derived.Test.YtmajnjbjoagihaaLawT15
import Derived.Test.YtmajnjbjoagihaaStrE15
namespace Go.Proofs.Ytmajnjbjoagihaa
open Go.RowKit
set_option linter.unusedVariables false
set_option linter.unusedSimpArgs false

def nV (O : List Nat) : List Value := O.map fun x : Nat => Value.int .i64 (x : Int)
theorem nV_append (a b : List Nat) : nV (a ++ b) = nV a ++ nV b := by simp [nV]
theorem nV_length (a : List Nat) : (nV a).length = a.length := by simp [nV]
theorem info_int : (Try.prog.info? 3).map (fun i => (i.zero, i.size, i.bytes)) = some (some (.int .i64 0), 1, 8) := by kernel_rfl

set_option maxRecDepth 20000 in
set_option maxHeartbeats 12800000 in
theorem early_walk {w : World} {g : Int} {fv : Value} {F : List (List I4)} {ta : Option Addr} {tl tc : Nat} (pa : Int) (h : RdP w fv F) (htb : tl ≤ 50 → ∃ tb : List Int, tb.length = tl ∧ Bs w (.slice ta tl tc) tb) :
    Calls Try.prog 3 #[.agg #[.int .i64 g, fv], .int .i64 pa, .slice ta tl tc] w fun e w' => e = .returned (.bool true) ∧ Below w.heap.size w w' := by
  obtain ⟨fa, cap, rfl⟩ := h.val
  have HP := Lib.hid h
  have EB := Lib.hid (fun (W : World) (k : RdP W (.slice fa F.length cap) F) => rencode_any (g := g) k)
  have HTB := Lib.hid htb
  clear h htb
  go_enter Try.func3, Try.ntmps3
  go_upto_region 1 with fail
  have e0 := Ex.made w (.cells #[.int .i64 g, .slice fa F.length cap] 24)
  have b0 := Box.fresh w #[.int .i64 g, .slice fa F.length cap] 24
  obtain ⟨W, hW⟩ : ∃ W, W = w.alloc (.cells #[.int .i64 g, .slice fa F.length cap] 24) := ⟨_, rfl⟩
  rw [← hW] at e0 b0 ⊢
  have E0 := Lib.hid e0
  have B0 := Lib.hid b0
  clear hW e0 b0
  have x0 : W.cell? ⟨w.heap.size, 0, none⟩ = some (.int .i64 g) := B0.out.cell 0
  have x1 : W.cell? ⟨w.heap.size, 1, none⟩ = some (.slice fa F.length cap) := B0.out.cell 1
  go_wp2_with fail
  refine (EB.out W (HP.out.ex E0.out)).mono ?_
  rintro e w2 (⟨h0, rfl, hx⟩ | ⟨h0, rfl, hx⟩)
  rotate_left
  · have E2 := Lib.hid (E0.out.trans hx)
    clear x0 x1 hx E0 B0 h0
    go_wp2_with fail
    refine (told_any w2).mono ?_
    rintro e w4 ⟨rfl, hx⟩
    have E4 := Lib.hid (E2.out.trans hx)
    clear hx
    go_wp2_with fail
    go_ret
    exact ⟨rfl, E4.out⟩
  have E2 := Lib.hid (E0.out.trans hx)
  have B2 := Lib.hid (B0.out.ex hx)
  have mb := may_zero h0
  obtain ⟨l7, l8⟩ := encB_length mb
  obtain ⟨S, hS⟩ : ∃ S, strOfNums (encB g F) = S := ⟨_, rfl⟩
  have hsz : S.size = (encB g F).length := by rw [← hS, strOfNums_size]
  have hnum : numS S = encB g F := by rw [← hS]; exact numS_of _ (encB_bytes mb)
  have s7 : 7 ≤ S.size := by omega
  have s8 : S.size ≤ 5000 := by omega
  rw [hS]
  have MB := Lib.hid mb
  have HSZ := Lib.hid hsz
  have HNUM := Lib.hid hnum
  clear x0 x1 hx E0 B0 h0 hS l7 l8 mb hsz hnum
  by_cases g3 : 3000 < S.size
  · have g3' : (3000 : Int) < (S.size : Int) := by omega
    go_wp2_with fail
    refine (told_any w2).mono ?_
    rintro e w4 ⟨rfl, hx⟩
    have E4 := Lib.hid (E2.out.trans hx)
    clear hx
    go_wp2_with fail
    go_ret
    exact ⟨rfl, E4.out⟩
  have g3' : (S.size : Int) ≤ 3000 := by omega
  by_cases g4 : 50 < tl
  · have g4' : (50 : Int) < (tl : Int) := by omega
    go_wp2_with fail
    refine (told_any w2).mono ?_
    rintro e w4 ⟨rfl, hx⟩
    have E4 := Lib.hid (E2.out.trans hx)
    clear hx
    go_wp2_with fail
    go_ret
    exact ⟨rfl, E4.out⟩
  have g4' : (tl : Int) ≤ 50 := by omega
  obtain ⟨tb, htl, htb⟩ := HTB.out (by omega)
  have HTL := Lib.hid htl
  have TB := Lib.hid htb
  clear htl htb HTB
  have n1 := MB.out.n1
  have n2 := MB.out.n2
  go_upto_region 6 with fail
  have x1 : w2.cell? ⟨w.heap.size, 1, none⟩ = some (.slice fa F.length cap) := B2.out.cell 1
  go_wp2_with fail
  go_loopw [9, 10, 11] (fun ov kv iv wr => ∃ (i k : Nat) (O : List Nat), i ≤ F.length ∧ iv = .int .i64 (i : Int) ∧ kv = .int .i64 (k : Int) ∧ wr.ownsRow (w.heap.size + 1) 3 1 ov O.length (nV O) ∧ Ex w wr ∧ Box wr w.heap.size #[.int .i64 g, .slice fa F.length cap] 24 ∧ O ++ opsF k (F.drop i) = opsF 2 F ∧ O.length ≤ 64 * i ∧ k ≤ 2 + 257 * i) (fun _ _ iv _ => F.length - (intOf iv).toNat)
  case atStart => exact ⟨0, 2, [], by omega, rfl, rfl, World.ownsRow_nil _ _ _ _, E2.out, B2.out, rfl, by simp, by omega⟩
  case round =>
    obtain ⟨i, k, O, hi, rfl, rfl, hr, hx, hb, hO, hOl, hkb⟩ := hrel
    have R := Lib.hid hr
    have X := Lib.hid hx
    have B := Lib.hid hb
    have OO := Lib.hid hO
    clear hr hx hb hO x1 E2 B2
    have x1 : wr.cell? ⟨w.heap.size, 1, none⟩ = some (.slice fa F.length cap) := B.out.cell 1
    have hz := B.out.lt
    by_cases hlt : i < F.length
    · have hlt' : (i : Int) < (F.length : Int) := by omega
      obtain ⟨l, hll⟩ := get_some hlt
      obtain ⟨gb, ob, a', cap', rfl, -, hcap, hgb, hc, hl, -⟩ := (HP.out).at2 hll
      have HC := Lib.hid hc
      have HL := Lib.hid hlt
      have q0 : F.length ≤ cap := hcap
      obtain ⟨hi0, hle⟩ := get_is hll
      obtain ⟨hs1, hs2⟩ := MB.out.l1 l (hle ▸ List.getElem_mem hi0)
      have OO2 : Hid (O ++ (opsL (k + 1) l.length ++ opsF (k + 1 + 4 * l.length) (F.drop (i + 1))) = opsF 2 F) := Lib.hid (by rw [← OO.out, opsF_drop hll])
      clear hlt hll hi0 hle hc OO
      go_wp2_with fail
      clear x1
      rw [show ((k : Int) + 1) = ((k + 1 : Nat) : Int) by omega]
      go_loopw [9, 10, 12] (fun ov kv jv wr2 => ∃ (j k2 : Nat) (O2 : List Nat), j ≤ l.length ∧ jv = .int .i64 (j : Int) ∧ kv = .int .i64 (k2 : Int) ∧ wr2.ownsRow (w.heap.size + 1) 3 1 ov O2.length (nV O2) ∧ Ex w wr2 ∧ Box wr2 w.heap.size #[.int .i64 g, .slice (some ⟨gb, ob, none⟩) F.length cap] 24 ∧ O2 ++ (opsL k2 (l.length - j) ++ opsF (k + 1 + 4 * l.length) (F.drop (i + 1))) = opsF 2 F ∧ O2.length = O.length + j ∧ k2 = k + 1 + 4 * j) (fun _ _ jv _ => l.length - (intOf jv).toNat)
      case atStart => exact ⟨0, k + 1, O, by omega, rfl, rfl, R.out, X.out, B.out, OO2.out, by omega, by omega⟩
      case round =>
        obtain ⟨j, k2, O2, hj, rfl, rfl, hr, hx, hb, hO, hOl2, hk2⟩ := hrel
        have RR := Lib.hid hr
        have XX := Lib.hid hx
        have BB := Lib.hid hb
        have OP := Lib.hid hO
        have HO2 := Lib.hid hOl2
        have HK2 := Lib.hid hk2
        have k2b : k2 ≤ 6000 := by omega
        have o2b : O2.length ≤ 2000 := by omega
        clear hr hx hb hO hOl2 hk2 R X B OO2 hz
        have x1 : wr.cell? ⟨w.heap.size, 1, none⟩ = some (.slice (some ⟨gb, ob, none⟩) F.length cap) := BB.out.cell 1
        have hc := cell_later XX.out HC.out
        have hz := BB.out.lt
        by_cases hlt2 : j < l.length
        · have hlt2' : (j : Int) < (l.length : Int) := by omega
          have HJ2 := Lib.hid hlt2
          have OP2 : Hid ((O2 ++ [k2]) ++ (opsL (k2 + 4) (l.length - (j + 1)) ++ opsF (k + 1 + 4 * l.length) (F.drop (i + 1))) = opsF 2 F) := Lib.hid (by
            rw [← OP.out, show l.length - j = (l.length - (j + 1)) + 1 by omega]
            show (O2 ++ [k2]) ++ _ = O2 ++ ((k2 :: opsL (k2 + 4) (l.length - (j + 1))) ++ _)
            simp)
          clear hlt2 OP
          go_upto_region 13 with fail
          clear x1 hc
          obtain ⟨i0, hi', hz0, hz1, hz2⟩ := info_parts info_int
          go_wp2_with (at_builtin; refine wpList_append_mine _ rfl (.tmp 64) (.tmp 66) 29 rfl (w.heap.size + 1) 3 i0 (.int .i64 0) 1 8 Try.underlying29 hi' hz0 hz1 hz2 rfl (by decide) _ _ _ rfl (RR.out.alloc _) ⟨wr.heap.size, 0, none⟩ 1 1 [.int .i64 (k2 : Int)] rfl rfl (one_new _ _ _) (one_cell rfl) (by unfold maxLen; omega) (by omega) (row_alloc_base wr _ (by omega)) (by omega) ?_)
          intro g' cap6 w6 hown hgrow hor hbg hlt3 hc1 hc3
          have C6 : Hid (Chg (fun q => w.heap.size + 1 ≤ q) wr w6) := Lib.hid (Chg.trans ((Ex.made wr _).chg _) (Chg.grown (F := fun q => w.heap.size + 1 ≤ q) hgrow (fun q hq => (row_base RR.out q hq).1)) (fun _ _ h => h))
          have R6 : Hid (w6.ownsRow (w.heap.size + 1) 3 1 (.slice (some ⟨g', 0, none⟩) (O2.length + 1) cap6) (O2 ++ [k2]).length (nV (O2 ++ [k2]))) := Lib.hid (by
            rw [nV_append, List.length_append]
            exact hown)
          have X6 := Lib.hid (Below.trans XX.out (C6.out.below XX.out.size (fun q hq => by omega)))
          have B6 := Lib.hid (BB.out.chg C6.out (by omega))
          clear hown hgrow hor hi' hz0 hz1 hz2 hz hbg hlt3 hc1 hc3 RR BB
          go_wp2_with fail
          go_roundw
          case rel =>
            have K1 : j + 1 ≤ l.length := by have := HJ2.out; omega
            have K2 : (O2 ++ [k2]).length = O.length + (j + 1) := by rw [List.length_append, HO2.out]; rfl
            have K3 : k2 + 4 = k + 1 + 4 * (j + 1) := by have := HK2.out; omega
            repeat apply Exists.intro
            refine ⟨⟨j + 1, k2 + 4, O2 ++ [k2], K1, ?_, ?_, R6.out, X6.out, B6.out, OP2.out, K2, K3⟩, ?_⟩
            rotate_left 2
            · repeat' (first | exact rfl | apply And.intro)
            · go_num
            · go_num
          case measure => simp [intOf]; have := HJ2.out; omega
        · have hj3 : (l.length : Int) ≤ (j : Int) := by omega
          have hfin : O2 ++ opsF k2 (F.drop (i + 1)) = opsF 2 F := by
            have e := OP.out
            have e2 := HK2.out
            rw [show l.length - j = 0 by omega] at e
            rw [show k2 = k + 1 + 4 * l.length by omega]
            simpa [opsL] using e
          have HFIN := Lib.hid hfin
          have HB5 : O2.length ≤ 64 * (i + 1) ∧ k2 ≤ 2 + 257 * (i + 1) := by have := HO2.out; have := HK2.out; omega
          clear hfin hlt2 OP
          go_wp2_with fail
          go_roundw
          case rel => exact ⟨i + 1, k2, O2, by have := HL.out; omega, by go_num, rfl, RR.out, XX.out, BB.out, HFIN.out, HB5.1, HB5.2⟩
          case measure => simp [intOf]; have := HL.out; omega
    · have hlt' : (F.length : Int) ≤ (i : Int) := by omega
      obtain rfl : O = opsF 2 F := by
        rw [← OO.out, List.drop_eq_nil_of_le (by omega)]
        simp [opsF]
      clear hlt OO
      have hpos := opsF_pos 2 (F := F) (by intro e; rw [e] at n1; simp at n1) (fun l hl => (MB.out.l1 l hl).1)
      have hle : (opsF 2 F).length ≤ 1024 := by omega
      obtain ⟨q, hq⟩ : ∃ q, (IntKind.u64.wrap pa).tmod ((opsF 2 F).length : Int) = q := ⟨_, rfl⟩
      obtain ⟨q1, q2⟩ := umod_bd pa ((opsF 2 F).length : Int) (by omega)
      rw [hq] at q1 q2
      obtain ⟨qn, rfl⟩ : ∃ k : Nat, q = (k : Int) := ⟨q.toNat, by omega⟩
      obtain ⟨x, hx⟩ := get_some (show qn < (opsF 2 F).length by omega)
      have hmem : x ∈ opsF 2 F := List.mem_of_getElem? hx
      obtain ⟨y1, y2⟩ := opsF_lt F 2 x hmem
      have y3 : x + 1 ≤ S.size := by
        rw [HSZ.out]
        unfold encB
        simp only [List.length_cons]
        omega
      obtain ⟨rb, rc, rfl⟩ : ∃ r c, u9 = .slice (some ⟨r, 0, none⟩) (opsF 2 F).length c := by
        rcases row_shape R.out with ⟨-, h2, -⟩ | ⟨r, c, h1, -⟩
        · omega
        · exact ⟨r, c, h1⟩
      have hrc : (opsF 2 F).length ≤ rc := by
        rcases row_shape R.out with ⟨h1, -⟩ | ⟨g, cap, h1, -, -, h4, h5⟩
        · cases h1
        · cases h1; exact h4
      have hcq : wr.cell? ⟨rb, qn, none⟩ = some (.int .i64 (x : Int)) := by
        rw [World.ownsRow.cellAt R.out qn (by omega)]
        unfold nV
        rw [List.getElem?_map, hx]
        rfl
      have HMEM := Lib.hid hmem
      clear hx hmem R
      generalize (opsF 2 F).length = N at *
      have y4 : (0 : Int) ≤ (x : Int) := by omega
      have y5 : (x : Int) + 1 ≤ (S.size : Int) := by omega
      have y6 : x ≤ S.size := by omega
      go_upto_region 16 with fail
      clear hcq x1
      have c1 : ¬ 9223372036854775807 < x + 1 := by omega
      have c2 : ¬ 9223372036854775807 < S.size := by omega
      have c4 : ¬ 9223372036854775807 < x + 1 + (S.size - (x + 1)) := by omega
      have kt : ((x : Int) + 1).toNat = x + 1 := by omega
      have k0 : (0 : Int) ≤ (x : Int) + 1 := by omega
      have kw : IntKind.i64.wrap ((x : Int) + 1) = (x : Int) + 1 := IntWalk.i64_in _ (by omega)
      go_quiet (fail)
      clear c1 c2 c4 kt k0 kw
      have X2 := Lib.hid (X.out.trans (Ex.drawn wr nq))
      obtain ⟨V, hV⟩ : ∃ V, V = wr.drewN nq := ⟨_, rfl⟩
      rw [← hV] at X2 ⊢
      clear hV X B
      have TBV := TB.out.ex X2.out
      have htc : ∀ W, Ex V W → (convert 25 9 (.slice ta tl tc)).run Try.prog W = .ok (.string (strOfNums tb)) W := by
        intro W hW
        have hb := TBV.ex hW
        rcases hb.is with ⟨⟨a, c, h1⟩, h2⟩ | ⟨g', o', c', h1, h2, h3, h4⟩
        · cases h1
          subst h2
          exact conv_zero W ta tc
        · have h5 := HTL.out
          rw [h5] at h1
          cases h1
          refine run_convert_bytes_arg (P := Try.prog) W 25 5 Try.underlying25 Try.underlying5 g' o' tl tc tb h5 (fun i hi => ?_) 9 Try.underlying9
          rw [h4 i (by omega)]
          simp [show i < tb.length by omega]
      have HTC := Lib.hid htc
      have hts : (strOfNums tb).size ≤ 50 := by rw [strOfNums_size, HTL.out]; omega
      obtain ⟨t1, ht1⟩ := early_one (x := x) HNUM.out TB.out.ok
      obtain ⟨t2, ht2⟩ := early_two (x := x) HNUM.out TB.out.ok
      obtain ⟨t3, ht3⟩ := early_zero S S.size
      obtain ⟨t4, ht4⟩ := early_33 S.size HNUM.out (b := (F.length : Int)) (r := g :: F.flatMap funB) rfl
      have D1 : decD (numS (S.extract 0 x ++ ⟨#[255]⟩ ++ S.extract (x + 1) S.size ++ strOfNums tb)) = .error x := by rw [ht1]; exact dec_early MB.out HMEM.out t1
      have D2 : decD (numS (S.extract 0 x ++ ⟨#[255]⟩ ++ strOfNums tb)) = .error x := by rw [ht2]; exact dec_early MB.out HMEM.out t2
      have D3 : decD (numS (⟨#[0]⟩ ++ S.extract 1 S.size)) = .error 0 := by rw [ht3]; exact dec_zero t3
      have D4 : decD (numS (S.extract 0 1 ++ ⟨#[33]⟩ ++ S.extract 2 S.size)) = .error 1 := by rw [ht4]; exact dec_33 t4 (by omega) (by omega)
      clear htc TBV ht1 ht2 ht3 ht4
      generalize strOfNums tb = TS at *
      have e1 : (⟨#[255]⟩ : ByteArray).size = 1 := rfl
      have e2 : (⟨#[0]⟩ : ByteArray).size = 1 := rfl
      have e3 : (⟨#[33]⟩ : ByteArray).size = 1 := rfl
      have u1 : (S.extract 0 x ++ ⟨#[255]⟩ ++ S.extract (x + 1) S.size ++ TS).size ≤ 20000 := by
        have := size_ext S 0 x
        have := size_ext S (x + 1) S.size
        rw [size_app, size_app, size_app]
        omega
      have u2 : (S.extract 0 x ++ ⟨#[255]⟩ ++ TS).size ≤ 20000 := by
        have := size_ext S 0 x
        rw [size_app, size_app]
        omega
      have u3 : (⟨#[0]⟩ ++ S.extract 1 S.size : ByteArray).size ≤ 20000 := by
        have := size_ext S 1 S.size
        rw [size_app]
        omega
      have u4 : (S.extract 0 1 ++ ⟨#[33]⟩ ++ S.extract 2 S.size).size ≤ 20000 := by
        have := size_ext S 0 1
        have := size_ext S 2 S.size
        rw [size_app, size_app]
        omega
      have KD : ∀ (T : ByteArray) (p : Nat), T.size ≤ 20000 → decD (numS T) = .error p → ∀ n, T.size = n → ∀ W W' : World, Ex (Lib.bytesWorld W 5 T) W' → Calls Try.prog 11 #[.slice (some ⟨W.heap.size, 0, none⟩) n (grownCap W n 0 5)] W' fun e w' => e = .returned (.tuple #[.agg #[.int .i64 0, .slice none 0 0], .int .i64 6, .int .i64 (p : Int)]) ∧ Ex W' w' := by
        intro T p hT hd n hn W W' hW
        subst hn
        refine (decode_any ((bytes_bs W T _ (grown_le _ _ _) (by omega)).ex hW)).mono ?_
        intro e w' h
        rw [hd] at h
        exact h
      have K1 := Lib.hid (KD _ _ u1 D1)
      have K2 := Lib.hid (KD _ _ u2 D2)
      have K3 := Lib.hid (KD _ _ u3 D3)
      have K4 := Lib.hid (KD _ _ u4 D4)
      have N1 : Hid ((S.extract 0 x ++ ⟨#[255]⟩ ++ S.extract (x + 1) S.size ++ TS).size = S.size + TS.size) := Lib.hid (by
        rw [size_app, size_app, size_app, ByteArray.size_extract, ByteArray.size_extract, e1]; omega)
      have N2 : Hid ((S.extract 0 x ++ ⟨#[255]⟩ ++ TS).size = x + 1 + TS.size) := Lib.hid (by
        rw [size_app, size_app, ByteArray.size_extract, e1]; omega)
      clear KD u1 u2 u3 u4 D1 D2 D3 D4 e1 e2 e3
      have hcv := HTC.out V (Ex.refl V)
      have kcv := fun (w : World) (T : ByteArray) => Lib.run_convert_string_bytes (P := Try.prog) w 9 25 5 T Try.underlying9 Try.underlying25 Try.underlying5
      go_wp2_with fail
      refine (K1.out _ N1.out V _ (Ex.refl _)).mono ?_
      rintro e w3 ⟨rfl, hx⟩
      have X3 := Lib.hid (X2.out.trans ((bytes_ex V _ _).trans hx))
      have XV := Lib.hid ((bytes_ex V _ _).trans hx)
      clear hx hcv K1 N1
      go_upto_region 18 with fail
      have e5 := Ex.made w3 (.cells #[.int .i64 0, .slice none 0 0] 24)
      have X4 := Lib.hid (X3.out.trans e5)
      have XV4 := Lib.hid (XV.out.trans e5)
      obtain ⟨U, hU⟩ : ∃ W, W = w3.alloc (.cells #[.int .i64 0, .slice none 0 0] 24) := ⟨_, rfl⟩
      rw [← hU] at e5 X4 XV4 ⊢
      clear hU e5 X3 XV kcv
      have c1 : ¬ 9223372036854775807 < x + 1 := by omega
      have c3 : ¬ 9223372036854775807 < x + 1 + TS.size := by omega
      --REGIONS
      refine wp_region_held_drew (S := fun w' => Ex U w') (by kernel_rfl) (ex_drew U) (fun hHeld => ?_)
      have XA0 := Lib.hid (X4.out.trans (ex_drew U))
      have XB0 := Lib.hid (XV4.out.trans (ex_drew U))
      generalize U.drew = Y0 at *
      refine wpAnyH_now hHeld (fun hHeld1 => ?_)
      clear hHeld
      refine wpAnyH_take (i := 0) (v := ?_) rfl (by kernel_rfl) (by kernel_rfl) (by kernel_rfl) (fun _ _ _ h => h) (Or.inl ⟨by rfl, ?_⟩) (by assumption) ?_
      rotate_left
      · intro w hSw; (try dsimp only at hSw); go_simp; try with_reducible rfl
      try simp only [Act.put, List.setIfInBounds_toArray, List.set_cons_zero, List.set_cons_succ]
      refine wpAnyH_take (i := 1) (v := ?_) rfl (by kernel_rfl) (by kernel_rfl) (by kernel_rfl) (fun _ _ _ h => h) (Or.inl ⟨by rfl, ?_⟩) (by assumption) ?_
      rotate_left
      · intro w hSw; (try dsimp only at hSw); go_simp; try with_reducible rfl
      try simp only [Act.put, List.setIfInBounds_toArray, List.set_cons_zero, List.set_cons_succ]
      refine wpAnyH_take (i := 2) (v := ?_) rfl (by kernel_rfl) (by kernel_rfl) (by kernel_rfl) (fun _ _ _ h => h) (Or.inl ⟨by rfl, ?_⟩) (by assumption) ?_
      rotate_left
      · intro w hSw; (try dsimp only at hSw); go_simp; try with_reducible rfl
      try simp only [Act.put, List.setIfInBounds_toArray, List.set_cons_zero, List.set_cons_succ]
      refine wpAnyH_take (i := 3) (v := ?_) rfl (by kernel_rfl) (by kernel_rfl) (by kernel_rfl) (fun _ _ _ h => h) (Or.inl ⟨by rfl, ?_⟩) (by assumption) ?_
      rotate_left
      · intro w hSw; (try dsimp only at hSw); go_simp; try with_reducible rfl
      try simp only [Act.put, List.setIfInBounds_toArray, List.set_cons_zero, List.set_cons_succ]
      refine wpAnyH_take (i := 4) (v := ?_) rfl (by kernel_rfl) (by kernel_rfl) (by kernel_rfl) (fun _ _ _ h => h) (Or.inl ⟨by rfl, ?_⟩) (by assumption) ?_
      rotate_left
      · intro w hSw; (try dsimp only at hSw); go_simp; try with_reducible rfl
      try simp only [Act.put, List.setIfInBounds_toArray, List.set_cons_zero, List.set_cons_succ]
      refine wpAnyH_take (i := 5) (v := ?_) rfl (by kernel_rfl) (by kernel_rfl) (by kernel_rfl) (fun _ _ _ h => h) (Or.inl ⟨by rfl, ?_⟩) (by assumption) ?_
      rotate_left
      · intro w hSw; (try dsimp only at hSw); have hcv := HTC.out w (XB0.out.trans hSw); go_simp; try with_reducible rfl
      try simp only [Act.put, List.setIfInBounds_toArray, List.set_cons_zero, List.set_cons_succ]
      refine wpAnyH_take (i := 6) (v := ?_) rfl (by kernel_rfl) (by kernel_rfl) (by kernel_rfl) (fun _ _ _ h => h) (Or.inl ⟨by rfl, ?_⟩) (by assumption) ?_
      rotate_left
      · intro w hSw; (try dsimp only at hSw); go_simp; try with_reducible rfl
      try simp only [Act.put, List.setIfInBounds_toArray, List.set_cons_zero, List.set_cons_succ]
      refine wpAnyH_ready (rs := [7, 13]) (by kernel_rfl) (by simp) ?_
      refine AllReadyH.cons rfl (fun K hK => ?_) (AllReadyH.cons rfl (fun K hK => ?_) AllReadyH.nil)
      have kcv := fun w : World => Lib.run_convert_string_bytes (P := Try.prog) w 9 25 5 (S.extract 0 x ++ ⟨#[255]⟩ ++ TS) Try.underlying9 Try.underlying25 Try.underlying5
      go_simp
      refine hK.out _ _ (bytes_ex _ _ _) (fun hHeld => ?_)
      clear hK K kcv
      try simp only [Act.put, List.setIfInBounds_toArray, List.set_cons_zero, List.set_cons_succ]
      have hx := bytes_ex Y0 5 (S.extract 0 x ++ ⟨#[255]⟩ ++ TS)
      have hk := fun n hn => K2.out n hn Y0
      obtain ⟨Y1, hY⟩ : ∃ Y, Y = Lib.bytesWorld Y0 5 (S.extract 0 x ++ ⟨#[255]⟩ ++ TS) := ⟨_, rfl⟩
      rw [← hY] at hx hk hHeld ⊢
      have KC := Lib.hid hk
      have XA1 := Lib.hid (XA0.out.trans hx)
      have XB1 := Lib.hid (XB0.out.trans hx)
      have XC1 := Lib.hid (Ex.refl Y1)
      refine wpAnyH_now hHeld (fun hHeld2 => ?_)
      clear hY hx hk hHeld
      refine wpAnyH_ready (rs := [8, 13]) (by kernel_rfl) (by simp) ?_
      refine AllReadyH.cons rfl (fun K hK => ?_) (AllReadyH.cons rfl (fun K hK => ?_) AllReadyH.nil)
      go_simp
      go_at_call 11
      refine (KC.out _ N2.out _ XC1.out).mono ?_
      rintro e Y2 ⟨rfl, hx⟩
      refine hK.out _ _ hx (fun hHeld => ?_)
      clear hK K
      try simp only [Act.put, List.setIfInBounds_toArray, List.set_cons_zero, List.set_cons_succ]
      have XA2 := Lib.hid (XA1.out.trans hx)
      have XB2 := Lib.hid (XB1.out.trans hx)
      refine wpAnyH_now hHeld (fun hHeld2 => ?_)
      clear hx hHeld KC
      refine wpAnyH_take (i := 9) (v := ?_) rfl (by kernel_rfl) (by kernel_rfl) (by kernel_rfl) (fun _ _ _ h => h) (Or.inl ⟨by rfl, ?_⟩) (by assumption) ?_
      rotate_left
      · intro w hSw; (try dsimp only at hSw); go_simp; try with_reducible rfl
      try simp only [Act.put, List.setIfInBounds_toArray, List.set_cons_zero, List.set_cons_succ]
      refine wpAnyH_take (i := 10) (v := ?_) rfl (by kernel_rfl) (by kernel_rfl) (by kernel_rfl) (fun _ _ _ h => h) (Or.inl ⟨by rfl, ?_⟩) (by assumption) ?_
      rotate_left
      · intro w hSw; (try dsimp only at hSw); go_simp; try with_reducible rfl
      try simp only [Act.put, List.setIfInBounds_toArray, List.set_cons_zero, List.set_cons_succ]
      refine wpAnyH_take (i := 11) (v := ?_) rfl (by kernel_rfl) (by kernel_rfl) (by kernel_rfl) (fun _ _ _ h => h) (Or.inl ⟨by rfl, ?_⟩) (by assumption) ?_
      rotate_left
      · intro w hSw; (try dsimp only at hSw); go_simp; try with_reducible rfl
      try simp only [Act.put, List.setIfInBounds_toArray, List.set_cons_zero, List.set_cons_succ]
      refine wpAnyH_take (i := 12) (v := ?_) rfl (by kernel_rfl) (by kernel_rfl) (by kernel_rfl) (fun _ _ _ h => h) (Or.inl ⟨by rfl, ?_⟩) (by assumption) ?_
      rotate_left
      · intro w hSw; (try dsimp only at hSw); go_simp; try with_reducible rfl
      try simp only [Act.put, List.setIfInBounds_toArray, List.set_cons_zero, List.set_cons_succ]
      refine wpAnyH_ready (rs := [13]) (by kernel_rfl) (by simp) ?_
      refine AllReadyH.cons rfl (fun K hK => ?_) AllReadyH.nil
      go_simp
      refine hK.out _ _ (Ex.made _ _) (fun hHeld => ?_)
      clear hK K
      try simp only [Act.put, List.setIfInBounds_toArray, List.set_cons_zero, List.set_cons_succ]
      have hx := Ex.made Y2 (.cells #[.int .i64 0, .slice none 0 0] 24)
      have hn := Box.fresh Y2 #[.int .i64 0, .slice none 0 0] 24
      obtain ⟨nb, hnb⟩ : ∃ b, Y2.heap.size = b := ⟨_, rfl⟩
      rw [hnb] at hn ⊢
      obtain ⟨Y3, hY⟩ : ∃ Y, Y = Y2.alloc (.cells #[.int .i64 0, .slice none 0 0] 24) := ⟨_, rfl⟩
      rw [← hY] at hx hn hHeld ⊢
      have XA3 := Lib.hid (XA2.out.trans hx)
      have XB3 := Lib.hid (XB2.out.trans hx)
      have NB3 := Lib.hid hn
      refine wpAnyH_now hHeld (fun hHeld2 => ?_)
      clear hY hnb hx hn hHeld
      refine wpAnyH_ready (rs := [14]) (by kernel_rfl) (by simp) ?_
      refine AllReadyH.cons rfl (fun K hK => ?_) AllReadyH.nil
      have s0 := NB3.out.cell 0
      have s1 := NB3.out.cell 1
      have s2 := NB3.out.soft 0
      have s3 := NB3.out.soft 1
      have hx := store_same NB3.out
      go_simp
      refine hK.out _ _ hx (fun hHeld => ?_)
      clear hK K s0 s1 s2 s3
      try simp only [Act.put, List.setIfInBounds_toArray, List.set_cons_zero, List.set_cons_succ]
      obtain ⟨Y4, hY⟩ : ∃ Y, Y = (Y3.setCell ⟨nb, 0, none⟩ (.int .i64 0)).setCell ⟨nb, 1, none⟩ (.slice none 0 0) := ⟨_, rfl⟩
      rw [← hY] at hx hHeld ⊢
      have XA4 := Lib.hid (XA3.out.trans hx)
      have XB4 := Lib.hid (XB3.out.trans hx)
      refine wpAnyH_now hHeld (fun hHeld2 => ?_)
      clear hY hx hHeld
      refine wpAnyH_ready (rs := [15]) (by kernel_rfl) (by simp) ?_
      refine AllReadyH.cons rfl (fun K hK => ?_) AllReadyH.nil
      go_simp
      refine hK.out _ _ (Ex.refl _) (fun hHeld => ?_)
      clear hK K
      try simp only [Act.put, List.setIfInBounds_toArray, List.set_cons_zero, List.set_cons_succ]
      refine wpAnyH_ready (rs := [16]) (by kernel_rfl) (by simp) ?_
      refine AllReadyH.cons rfl (fun K hK => ?_) AllReadyH.nil
      go_simp
      refine hK.out _ _ (Ex.refl _) (fun hHeld => ?_)
      clear hK K
      try simp only [Act.put, List.setIfInBounds_toArray, List.set_cons_zero, List.set_cons_succ]
      refine wpAnyH_done (by kernel_rfl) ?_ _
      clear hHeld
      have XE := Lib.hid XA4.out
      have XF := Lib.hid XB4.out
      obtain ⟨Z, hZ⟩ : ∃ Z, Z = Y4 := ⟨_, rfl⟩
      rw [← hZ] at XE XF ⊢
      clear hZ
      rotate_left
      go_simp
      refine hK.out _ _ (Ex.made _ _) (fun hHeld => ?_)
      clear hK K
      try simp only [Act.put, List.setIfInBounds_toArray, List.set_cons_zero, List.set_cons_succ]
      have hx := Ex.made Y1 (.cells #[.int .i64 0, .slice none 0 0] 24)
      have hn := Box.fresh Y1 #[.int .i64 0, .slice none 0 0] 24
      obtain ⟨nb, hnb⟩ : ∃ b, Y1.heap.size = b := ⟨_, rfl⟩
      rw [hnb] at hn ⊢
      obtain ⟨Y2, hY⟩ : ∃ Y, Y = Y1.alloc (.cells #[.int .i64 0, .slice none 0 0] 24) := ⟨_, rfl⟩
      rw [← hY] at hx hn hHeld ⊢
      have XA2 := Lib.hid (XA1.out.trans hx)
      have XB2 := Lib.hid (XB1.out.trans hx)
      have XC2 := Lib.hid (XC1.out.trans hx)
      have NB2 := Lib.hid hn
      refine wpAnyH_now hHeld (fun hHeld2 => ?_)
      clear hY hnb hx hn hHeld
      refine wpAnyH_ready (rs := [8]) (by kernel_rfl) (by simp) ?_
      refine AllReadyH.cons rfl (fun K hK => ?_) AllReadyH.nil
      go_simp
      go_at_call 11
      refine (KC.out _ N2.out _ XC2.out).mono ?_
      rintro e Y3 ⟨rfl, hx⟩
      refine hK.out _ _ hx (fun hHeld => ?_)
      clear hK K
      try simp only [Act.put, List.setIfInBounds_toArray, List.set_cons_zero, List.set_cons_succ]
      have XA3 := Lib.hid (XA2.out.trans hx)
      have XB3 := Lib.hid (XB2.out.trans hx)
      have NB3 := Lib.hid (NB2.out.ex hx)
      refine wpAnyH_now hHeld (fun hHeld2 => ?_)
      clear hx hHeld KC
      refine wpAnyH_take (i := 9) (v := ?_) rfl (by kernel_rfl) (by kernel_rfl) (by kernel_rfl) (fun _ _ _ h => h) (Or.inl ⟨by rfl, ?_⟩) (by assumption) ?_
      rotate_left
      · intro w hSw; (try dsimp only at hSw); go_simp; try with_reducible rfl
      try simp only [Act.put, List.setIfInBounds_toArray, List.set_cons_zero, List.set_cons_succ]
      refine wpAnyH_take (i := 10) (v := ?_) rfl (by kernel_rfl) (by kernel_rfl) (by kernel_rfl) (fun _ _ _ h => h) (Or.inl ⟨by rfl, ?_⟩) (by assumption) ?_
      rotate_left
      · intro w hSw; (try dsimp only at hSw); go_simp; try with_reducible rfl
      try simp only [Act.put, List.setIfInBounds_toArray, List.set_cons_zero, List.set_cons_succ]
      refine wpAnyH_take (i := 11) (v := ?_) rfl (by kernel_rfl) (by kernel_rfl) (by kernel_rfl) (fun _ _ _ h => h) (Or.inl ⟨by rfl, ?_⟩) (by assumption) ?_
      rotate_left
      · intro w hSw; (try dsimp only at hSw); go_simp; try with_reducible rfl
      try simp only [Act.put, List.setIfInBounds_toArray, List.set_cons_zero, List.set_cons_succ]
      refine wpAnyH_take (i := 12) (v := ?_) rfl (by kernel_rfl) (by kernel_rfl) (by kernel_rfl) (fun _ _ _ h => h) (Or.inl ⟨by rfl, ?_⟩) (by assumption) ?_
      rotate_left
      · intro w hSw; (try dsimp only at hSw); go_simp; try with_reducible rfl
      try simp only [Act.put, List.setIfInBounds_toArray, List.set_cons_zero, List.set_cons_succ]
      refine wpAnyH_ready (rs := [14]) (by kernel_rfl) (by simp) ?_
      refine AllReadyH.cons rfl (fun K hK => ?_) AllReadyH.nil
      have s0 := NB3.out.cell 0
      have s1 := NB3.out.cell 1
      have s2 := NB3.out.soft 0
      have s3 := NB3.out.soft 1
      have hx := store_same NB3.out
      go_simp
      refine hK.out _ _ hx (fun hHeld => ?_)
      clear hK K s0 s1 s2 s3
      try simp only [Act.put, List.setIfInBounds_toArray, List.set_cons_zero, List.set_cons_succ]
      obtain ⟨Y4, hY⟩ : ∃ Y, Y = (Y3.setCell ⟨nb, 0, none⟩ (.int .i64 0)).setCell ⟨nb, 1, none⟩ (.slice none 0 0) := ⟨_, rfl⟩
      rw [← hY] at hx hHeld ⊢
      have XA4 := Lib.hid (XA3.out.trans hx)
      have XB4 := Lib.hid (XB3.out.trans hx)
      refine wpAnyH_now hHeld (fun hHeld2 => ?_)
      clear hY hx hHeld
      refine wpAnyH_ready (rs := [15]) (by kernel_rfl) (by simp) ?_
      refine AllReadyH.cons rfl (fun K hK => ?_) AllReadyH.nil
      go_simp
      refine hK.out _ _ (Ex.refl _) (fun hHeld => ?_)
      clear hK K
      try simp only [Act.put, List.setIfInBounds_toArray, List.set_cons_zero, List.set_cons_succ]
      refine wpAnyH_ready (rs := [16]) (by kernel_rfl) (by simp) ?_
      refine AllReadyH.cons rfl (fun K hK => ?_) AllReadyH.nil
      go_simp
      refine hK.out _ _ (Ex.refl _) (fun hHeld => ?_)
      clear hK K
      try simp only [Act.put, List.setIfInBounds_toArray, List.set_cons_zero, List.set_cons_succ]
      refine wpAnyH_done (by kernel_rfl) ?_ _
      clear hHeld
      have XE := Lib.hid XA4.out
      have XF := Lib.hid XB4.out
      obtain ⟨Z, hZ⟩ : ∃ Z, Z = Y4 := ⟨_, rfl⟩
      rw [← hZ] at XE XF ⊢
      clear hZ
      rotate_left
      go_simp
      refine hK.out _ _ (Ex.made _ _) (fun hHeld => ?_)
      clear hK K
      try simp only [Act.put, List.setIfInBounds_toArray, List.set_cons_zero, List.set_cons_succ]
      have hx := Ex.made Y0 (.cells #[.int .i64 0, .slice none 0 0] 24)
      have hn := Box.fresh Y0 #[.int .i64 0, .slice none 0 0] 24
      obtain ⟨nb, hnb⟩ : ∃ b, Y0.heap.size = b := ⟨_, rfl⟩
      rw [hnb] at hn ⊢
      obtain ⟨Y1, hY⟩ : ∃ Y, Y = Y0.alloc (.cells #[.int .i64 0, .slice none 0 0] 24) := ⟨_, rfl⟩
      rw [← hY] at hx hn hHeld ⊢
      have XA1 := Lib.hid (XA0.out.trans hx)
      have XB1 := Lib.hid (XB0.out.trans hx)
      have NB1 := Lib.hid hn
      refine wpAnyH_now hHeld (fun hHeld2 => ?_)
      clear hY hnb hx hn hHeld
      refine wpAnyH_ready (rs := [7]) (by kernel_rfl) (by simp) ?_
      refine AllReadyH.cons rfl (fun K hK => ?_) AllReadyH.nil
      have kcv := fun w : World => Lib.run_convert_string_bytes (P := Try.prog) w 9 25 5 (S.extract 0 x ++ ⟨#[255]⟩ ++ TS) Try.underlying9 Try.underlying25 Try.underlying5
      go_simp
      refine hK.out _ _ (bytes_ex _ _ _) (fun hHeld => ?_)
      clear hK K kcv
      try simp only [Act.put, List.setIfInBounds_toArray, List.set_cons_zero, List.set_cons_succ]
      have hx := bytes_ex Y1 5 (S.extract 0 x ++ ⟨#[255]⟩ ++ TS)
      have hk := fun n hn => K2.out n hn Y1
      obtain ⟨Y2, hY⟩ : ∃ Y, Y = Lib.bytesWorld Y1 5 (S.extract 0 x ++ ⟨#[255]⟩ ++ TS) := ⟨_, rfl⟩
      rw [← hY] at hx hk hHeld ⊢
      have KC := Lib.hid hk
      have XA2 := Lib.hid (XA1.out.trans hx)
      have XB2 := Lib.hid (XB1.out.trans hx)
      have XC2 := Lib.hid (Ex.refl Y2)
      have NB2 := Lib.hid (NB1.out.ex hx)
      refine wpAnyH_now hHeld (fun hHeld2 => ?_)
      clear hY hx hk hHeld
      refine wpAnyH_ready (rs := [8]) (by kernel_rfl) (by simp) ?_
      refine AllReadyH.cons rfl (fun K hK => ?_) AllReadyH.nil
      go_simp
      go_at_call 11
      refine (KC.out _ N2.out _ XC2.out).mono ?_
      rintro e Y3 ⟨rfl, hx⟩
      refine hK.out _ _ hx (fun hHeld => ?_)
      clear hK K
      try simp only [Act.put, List.setIfInBounds_toArray, List.set_cons_zero, List.set_cons_succ]
      have XA3 := Lib.hid (XA2.out.trans hx)
      have XB3 := Lib.hid (XB2.out.trans hx)
      have NB3 := Lib.hid (NB2.out.ex hx)
      refine wpAnyH_now hHeld (fun hHeld2 => ?_)
      clear hx hHeld KC
      refine wpAnyH_take (i := 9) (v := ?_) rfl (by kernel_rfl) (by kernel_rfl) (by kernel_rfl) (fun _ _ _ h => h) (Or.inl ⟨by rfl, ?_⟩) (by assumption) ?_
      rotate_left
      · intro w hSw; (try dsimp only at hSw); go_simp; try with_reducible rfl
      try simp only [Act.put, List.setIfInBounds_toArray, List.set_cons_zero, List.set_cons_succ]
      refine wpAnyH_take (i := 10) (v := ?_) rfl (by kernel_rfl) (by kernel_rfl) (by kernel_rfl) (fun _ _ _ h => h) (Or.inl ⟨by rfl, ?_⟩) (by assumption) ?_
      rotate_left
      · intro w hSw; (try dsimp only at hSw); go_simp; try with_reducible rfl
      try simp only [Act.put, List.setIfInBounds_toArray, List.set_cons_zero, List.set_cons_succ]
      refine wpAnyH_take (i := 11) (v := ?_) rfl (by kernel_rfl) (by kernel_rfl) (by kernel_rfl) (fun _ _ _ h => h) (Or.inl ⟨by rfl, ?_⟩) (by assumption) ?_
      rotate_left
      · intro w hSw; (try dsimp only at hSw); go_simp; try with_reducible rfl
      try simp only [Act.put, List.setIfInBounds_toArray, List.set_cons_zero, List.set_cons_succ]
      refine wpAnyH_take (i := 12) (v := ?_) rfl (by kernel_rfl) (by kernel_rfl) (by kernel_rfl) (fun _ _ _ h => h) (Or.inl ⟨by rfl, ?_⟩) (by assumption) ?_
      rotate_left
      · intro w hSw; (try dsimp only at hSw); go_simp; try with_reducible rfl
      try simp only [Act.put, List.setIfInBounds_toArray, List.set_cons_zero, List.set_cons_succ]
      refine wpAnyH_ready (rs := [14]) (by kernel_rfl) (by simp) ?_
      refine AllReadyH.cons rfl (fun K hK => ?_) AllReadyH.nil
      have s0 := NB3.out.cell 0
      have s1 := NB3.out.cell 1
      have s2 := NB3.out.soft 0
      have s3 := NB3.out.soft 1
      have hx := store_same NB3.out
      go_simp
      refine hK.out _ _ hx (fun hHeld => ?_)
      clear hK K s0 s1 s2 s3
      try simp only [Act.put, List.setIfInBounds_toArray, List.set_cons_zero, List.set_cons_succ]
      obtain ⟨Y4, hY⟩ : ∃ Y, Y = (Y3.setCell ⟨nb, 0, none⟩ (.int .i64 0)).setCell ⟨nb, 1, none⟩ (.slice none 0 0) := ⟨_, rfl⟩
      rw [← hY] at hx hHeld ⊢
      have XA4 := Lib.hid (XA3.out.trans hx)
      have XB4 := Lib.hid (XB3.out.trans hx)
      refine wpAnyH_now hHeld (fun hHeld2 => ?_)
      clear hY hx hHeld
      refine wpAnyH_ready (rs := [15]) (by kernel_rfl) (by simp) ?_
      refine AllReadyH.cons rfl (fun K hK => ?_) AllReadyH.nil
      go_simp
      refine hK.out _ _ (Ex.refl _) (fun hHeld => ?_)
      clear hK K
      try simp only [Act.put, List.setIfInBounds_toArray, List.set_cons_zero, List.set_cons_succ]
      refine wpAnyH_ready (rs := [16]) (by kernel_rfl) (by simp) ?_
      refine AllReadyH.cons rfl (fun K hK => ?_) AllReadyH.nil
      go_simp
      refine hK.out _ _ (Ex.refl _) (fun hHeld => ?_)
      clear hK K
      try simp only [Act.put, List.setIfInBounds_toArray, List.set_cons_zero, List.set_cons_succ]
      refine wpAnyH_done (by kernel_rfl) ?_ _
      clear hHeld
      have XE := Lib.hid XA4.out
      have XF := Lib.hid XB4.out
      obtain ⟨Z, hZ⟩ : ∃ Z, Z = Y4 := ⟨_, rfl⟩
      rw [← hZ] at XE XF ⊢
      clear hZ
      rotate_left
      all_goals
        clear K2 N2 c1 c3 XV4 X4
        have s1i : (1 : Int) ≤ (S.size : Int) := by omega
        have s2i : (2 : Int) ≤ (S.size : Int) := by omega
        have s1n : 1 ≤ S.size := by omega
        have s2n : 2 ≤ S.size := by omega
        have c5 : ¬ 9223372036854775807 < 1 + (S.size - 1) := by omega
        have c6 : ¬ 9223372036854775807 < S.size := by omega
        have kcv := fun (w : World) (T : ByteArray) => Lib.run_convert_string_bytes (P := Try.prog) w 9 25 5 T Try.underlying9 Try.underlying25 Try.underlying5
        go_wp2_with fail
        refine (K3.out _ (by rw [size_app, ByteArray.size_extract]; show 1 + _ = _; omega) Z _ (Ex.refl _)).mono ?_
        rintro e w4 ⟨rfl, hx⟩
        have X5 := Lib.hid (XE.out.trans ((bytes_ex Z _ _).trans hx))
        have XV5 := Lib.hid (XF.out.trans ((bytes_ex Z _ _).trans hx))
        clear hx K3 kcv c5
        go_upto_region 20 with fail
        have e5 := Ex.made w4 (.cells #[.int .i64 0, .slice none 0 0] 24)
        have X6 := Lib.hid (X5.out.trans e5)
        have XV6 := Lib.hid (XV5.out.trans e5)
        obtain ⟨U2, hU⟩ : ∃ W, W = w4.alloc (.cells #[.int .i64 0, .slice none 0 0] 24) := ⟨_, rfl⟩
        rw [← hU] at e5 X6 XV6 ⊢
        clear hU e5 X5 XV5 XE XF
        have c7 : ¬ 9223372036854775807 < 1 + 1 := by omega
        have c8 : ¬ 9223372036854775807 < 1 + 1 + (S.size - 2) := by omega
        refine wp_region_held_drew (S := fun w' => Ex U2 w') (by kernel_rfl) (ex_drew U2) (fun hHeld => ?_)
        have XA0 := Lib.hid (X6.out.trans (ex_drew U2))
        have XB0 := Lib.hid (XV6.out.trans (ex_drew U2))
        generalize U2.drew = Y0 at *
        refine wpAnyH_now hHeld (fun hHeld1 => ?_)
        clear hHeld
        refine wpAnyH_take (i := 0) (v := ?_) rfl (by kernel_rfl) (by kernel_rfl) (by kernel_rfl) (fun _ _ _ h => h) (Or.inl ⟨by rfl, ?_⟩) (by assumption) ?_
        rotate_left
        · intro w hSw; (try dsimp only at hSw); go_simp; try with_reducible rfl
        try simp only [Act.put, List.setIfInBounds_toArray, List.set_cons_zero, List.set_cons_succ]
        refine wpAnyH_take (i := 1) (v := ?_) rfl (by kernel_rfl) (by kernel_rfl) (by kernel_rfl) (fun _ _ _ h => h) (Or.inl ⟨by rfl, ?_⟩) (by assumption) ?_
        rotate_left
        · intro w hSw; (try dsimp only at hSw); go_simp; try with_reducible rfl
        try simp only [Act.put, List.setIfInBounds_toArray, List.set_cons_zero, List.set_cons_succ]
        refine wpAnyH_take (i := 2) (v := ?_) rfl (by kernel_rfl) (by kernel_rfl) (by kernel_rfl) (fun _ _ _ h => h) (Or.inl ⟨by rfl, ?_⟩) (by assumption) ?_
        rotate_left
        · intro w hSw; (try dsimp only at hSw); go_simp; try with_reducible rfl
        try simp only [Act.put, List.setIfInBounds_toArray, List.set_cons_zero, List.set_cons_succ]
        refine wpAnyH_take (i := 3) (v := ?_) rfl (by kernel_rfl) (by kernel_rfl) (by kernel_rfl) (fun _ _ _ h => h) (Or.inl ⟨by rfl, ?_⟩) (by assumption) ?_
        rotate_left
        · intro w hSw; (try dsimp only at hSw); go_simp; try with_reducible rfl
        try simp only [Act.put, List.setIfInBounds_toArray, List.set_cons_zero, List.set_cons_succ]
        refine wpAnyH_take (i := 4) (v := ?_) rfl (by kernel_rfl) (by kernel_rfl) (by kernel_rfl) (fun _ _ _ h => h) (Or.inl ⟨by rfl, ?_⟩) (by assumption) ?_
        rotate_left
        · intro w hSw; (try dsimp only at hSw); go_simp; try with_reducible rfl
        try simp only [Act.put, List.setIfInBounds_toArray, List.set_cons_zero, List.set_cons_succ]
        refine wpAnyH_take (i := 5) (v := ?_) rfl (by kernel_rfl) (by kernel_rfl) (by kernel_rfl) (fun _ _ _ h => h) (Or.inl ⟨by rfl, ?_⟩) (by assumption) ?_
        rotate_left
        · intro w hSw; (try dsimp only at hSw); go_simp; try with_reducible rfl
        try simp only [Act.put, List.setIfInBounds_toArray, List.set_cons_zero, List.set_cons_succ]
        refine wpAnyH_ready (rs := [6, 12]) (by kernel_rfl) (by simp) ?_
        refine AllReadyH.cons rfl (fun K hK => ?_) (AllReadyH.cons rfl (fun K hK => ?_) AllReadyH.nil)
        have kcv := fun w : World => Lib.run_convert_string_bytes (P := Try.prog) w 9 25 5 (S.extract 0 1 ++ ⟨#[33]⟩ ++ S.extract 2 S.size) Try.underlying9 Try.underlying25 Try.underlying5
        go_simp
        refine hK.out _ _ (bytes_ex _ _ _) (fun hHeld => ?_)
        clear hK K kcv
        try simp only [Act.put, List.setIfInBounds_toArray, List.set_cons_zero, List.set_cons_succ]
        have hx := bytes_ex Y0 5 (S.extract 0 1 ++ ⟨#[33]⟩ ++ S.extract 2 S.size)
        have hk := fun n hn => K4.out n hn Y0
        obtain ⟨Y1, hY⟩ : ∃ Y, Y = Lib.bytesWorld Y0 5 (S.extract 0 1 ++ ⟨#[33]⟩ ++ S.extract 2 S.size) := ⟨_, rfl⟩
        rw [← hY] at hx hk hHeld ⊢
        have KC := Lib.hid hk
        have XA1 := Lib.hid (XA0.out.trans hx)
        have XB1 := Lib.hid (XB0.out.trans hx)
        have XC1 := Lib.hid (Ex.refl Y1)
        refine wpAnyH_now hHeld (fun hHeld2 => ?_)
        clear hY hx hk hHeld
        refine wpAnyH_ready (rs := [7, 12]) (by kernel_rfl) (by simp) ?_
        refine AllReadyH.cons rfl (fun K hK => ?_) (AllReadyH.cons rfl (fun K hK => ?_) AllReadyH.nil)
        go_simp
        go_at_call 11
        refine (KC.out _ (by rw [size_app, size_app, ByteArray.size_extract, ByteArray.size_extract]; show _ + 1 + _ = _; omega) _ XC1.out).mono ?_
        rintro e Y2 ⟨rfl, hx⟩
        refine hK.out _ _ hx (fun hHeld => ?_)
        clear hK K
        try simp only [Act.put, List.setIfInBounds_toArray, List.set_cons_zero, List.set_cons_succ]
        have XA2 := Lib.hid (XA1.out.trans hx)
        have XB2 := Lib.hid (XB1.out.trans hx)
        refine wpAnyH_now hHeld (fun hHeld2 => ?_)
        clear hx hHeld KC
        refine wpAnyH_take (i := 8) (v := ?_) rfl (by kernel_rfl) (by kernel_rfl) (by kernel_rfl) (fun _ _ _ h => h) (Or.inl ⟨by rfl, ?_⟩) (by assumption) ?_
        rotate_left
        · intro w hSw; (try dsimp only at hSw); go_simp; try with_reducible rfl
        try simp only [Act.put, List.setIfInBounds_toArray, List.set_cons_zero, List.set_cons_succ]
        refine wpAnyH_take (i := 9) (v := ?_) rfl (by kernel_rfl) (by kernel_rfl) (by kernel_rfl) (fun _ _ _ h => h) (Or.inl ⟨by rfl, ?_⟩) (by assumption) ?_
        rotate_left
        · intro w hSw; (try dsimp only at hSw); go_simp; try with_reducible rfl
        try simp only [Act.put, List.setIfInBounds_toArray, List.set_cons_zero, List.set_cons_succ]
        refine wpAnyH_take (i := 10) (v := ?_) rfl (by kernel_rfl) (by kernel_rfl) (by kernel_rfl) (fun _ _ _ h => h) (Or.inl ⟨by rfl, ?_⟩) (by assumption) ?_
        rotate_left
        · intro w hSw; (try dsimp only at hSw); go_simp; try with_reducible rfl
        try simp only [Act.put, List.setIfInBounds_toArray, List.set_cons_zero, List.set_cons_succ]
        refine wpAnyH_take (i := 11) (v := ?_) rfl (by kernel_rfl) (by kernel_rfl) (by kernel_rfl) (fun _ _ _ h => h) (Or.inl ⟨by rfl, ?_⟩) (by assumption) ?_
        rotate_left
        · intro w hSw; (try dsimp only at hSw); go_simp; try with_reducible rfl
        try simp only [Act.put, List.setIfInBounds_toArray, List.set_cons_zero, List.set_cons_succ]
        refine wpAnyH_ready (rs := [12]) (by kernel_rfl) (by simp) ?_
        refine AllReadyH.cons rfl (fun K hK => ?_) AllReadyH.nil
        go_simp
        refine hK.out _ _ (Ex.made _ _) (fun hHeld => ?_)
        clear hK K
        try simp only [Act.put, List.setIfInBounds_toArray, List.set_cons_zero, List.set_cons_succ]
        have hx := Ex.made Y2 (.cells #[.int .i64 0, .slice none 0 0] 24)
        have hn := Box.fresh Y2 #[.int .i64 0, .slice none 0 0] 24
        obtain ⟨nb, hnb⟩ : ∃ b, Y2.heap.size = b := ⟨_, rfl⟩
        rw [hnb] at hn ⊢
        obtain ⟨Y3, hY⟩ : ∃ Y, Y = Y2.alloc (.cells #[.int .i64 0, .slice none 0 0] 24) := ⟨_, rfl⟩
        rw [← hY] at hx hn hHeld ⊢
        have XA3 := Lib.hid (XA2.out.trans hx)
        have XB3 := Lib.hid (XB2.out.trans hx)
        have NB3 := Lib.hid hn
        refine wpAnyH_now hHeld (fun hHeld2 => ?_)
        clear hY hnb hx hn hHeld
        refine wpAnyH_ready (rs := [13]) (by kernel_rfl) (by simp) ?_
        refine AllReadyH.cons rfl (fun K hK => ?_) AllReadyH.nil
        have s0 := NB3.out.cell 0
        have s1 := NB3.out.cell 1
        have s2 := NB3.out.soft 0
        have s3 := NB3.out.soft 1
        have hx := store_same NB3.out
        go_simp
        refine hK.out _ _ hx (fun hHeld => ?_)
        clear hK K s0 s1 s2 s3
        try simp only [Act.put, List.setIfInBounds_toArray, List.set_cons_zero, List.set_cons_succ]
        obtain ⟨Y4, hY⟩ : ∃ Y, Y = (Y3.setCell ⟨nb, 0, none⟩ (.int .i64 0)).setCell ⟨nb, 1, none⟩ (.slice none 0 0) := ⟨_, rfl⟩
        rw [← hY] at hx hHeld ⊢
        have XA4 := Lib.hid (XA3.out.trans hx)
        have XB4 := Lib.hid (XB3.out.trans hx)
        refine wpAnyH_now hHeld (fun hHeld2 => ?_)
        clear hY hx hHeld
        refine wpAnyH_ready (rs := [14]) (by kernel_rfl) (by simp) ?_
        refine AllReadyH.cons rfl (fun K hK => ?_) AllReadyH.nil
        go_simp
        refine hK.out _ _ (Ex.refl _) (fun hHeld => ?_)
        clear hK K
        try simp only [Act.put, List.setIfInBounds_toArray, List.set_cons_zero, List.set_cons_succ]
        refine wpAnyH_ready (rs := [15]) (by kernel_rfl) (by simp) ?_
        refine AllReadyH.cons rfl (fun K hK => ?_) AllReadyH.nil
        go_simp
        refine hK.out _ _ (Ex.refl _) (fun hHeld => ?_)
        clear hK K
        try simp only [Act.put, List.setIfInBounds_toArray, List.set_cons_zero, List.set_cons_succ]
        refine wpAnyH_done (by kernel_rfl) ?_ _
        clear hHeld
        have XE := Lib.hid XA4.out
        have XF := Lib.hid XB4.out
        obtain ⟨Z, hZ⟩ : ∃ Z, Z = Y4 := ⟨_, rfl⟩
        rw [← hZ] at XE XF ⊢
        clear hZ
        rotate_left
        go_simp
        refine hK.out _ _ (Ex.made _ _) (fun hHeld => ?_)
        clear hK K
        try simp only [Act.put, List.setIfInBounds_toArray, List.set_cons_zero, List.set_cons_succ]
        have hx := Ex.made Y1 (.cells #[.int .i64 0, .slice none 0 0] 24)
        have hn := Box.fresh Y1 #[.int .i64 0, .slice none 0 0] 24
        obtain ⟨nb, hnb⟩ : ∃ b, Y1.heap.size = b := ⟨_, rfl⟩
        rw [hnb] at hn ⊢
        obtain ⟨Y2, hY⟩ : ∃ Y, Y = Y1.alloc (.cells #[.int .i64 0, .slice none 0 0] 24) := ⟨_, rfl⟩
        rw [← hY] at hx hn hHeld ⊢
        have XA2 := Lib.hid (XA1.out.trans hx)
        have XB2 := Lib.hid (XB1.out.trans hx)
        have XC2 := Lib.hid (XC1.out.trans hx)
        have NB2 := Lib.hid hn
        refine wpAnyH_now hHeld (fun hHeld2 => ?_)
        clear hY hnb hx hn hHeld
        refine wpAnyH_ready (rs := [7]) (by kernel_rfl) (by simp) ?_
        refine AllReadyH.cons rfl (fun K hK => ?_) AllReadyH.nil
        go_simp
        go_at_call 11
        refine (KC.out _ (by rw [size_app, size_app, ByteArray.size_extract, ByteArray.size_extract]; show _ + 1 + _ = _; omega) _ XC2.out).mono ?_
        rintro e Y3 ⟨rfl, hx⟩
        refine hK.out _ _ hx (fun hHeld => ?_)
        clear hK K
        try simp only [Act.put, List.setIfInBounds_toArray, List.set_cons_zero, List.set_cons_succ]
        have XA3 := Lib.hid (XA2.out.trans hx)
        have XB3 := Lib.hid (XB2.out.trans hx)
        have NB3 := Lib.hid (NB2.out.ex hx)
        refine wpAnyH_now hHeld (fun hHeld2 => ?_)
        clear hx hHeld KC
        refine wpAnyH_take (i := 8) (v := ?_) rfl (by kernel_rfl) (by kernel_rfl) (by kernel_rfl) (fun _ _ _ h => h) (Or.inl ⟨by rfl, ?_⟩) (by assumption) ?_
        rotate_left
        · intro w hSw; (try dsimp only at hSw); go_simp; try with_reducible rfl
        try simp only [Act.put, List.setIfInBounds_toArray, List.set_cons_zero, List.set_cons_succ]
        refine wpAnyH_take (i := 9) (v := ?_) rfl (by kernel_rfl) (by kernel_rfl) (by kernel_rfl) (fun _ _ _ h => h) (Or.inl ⟨by rfl, ?_⟩) (by assumption) ?_
        rotate_left
        · intro w hSw; (try dsimp only at hSw); go_simp; try with_reducible rfl
        try simp only [Act.put, List.setIfInBounds_toArray, List.set_cons_zero, List.set_cons_succ]
        refine wpAnyH_take (i := 10) (v := ?_) rfl (by kernel_rfl) (by kernel_rfl) (by kernel_rfl) (fun _ _ _ h => h) (Or.inl ⟨by rfl, ?_⟩) (by assumption) ?_
        rotate_left
        · intro w hSw; (try dsimp only at hSw); go_simp; try with_reducible rfl
        try simp only [Act.put, List.setIfInBounds_toArray, List.set_cons_zero, List.set_cons_succ]
        refine wpAnyH_take (i := 11) (v := ?_) rfl (by kernel_rfl) (by kernel_rfl) (by kernel_rfl) (fun _ _ _ h => h) (Or.inl ⟨by rfl, ?_⟩) (by assumption) ?_
        rotate_left
        · intro w hSw; (try dsimp only at hSw); go_simp; try with_reducible rfl
        try simp only [Act.put, List.setIfInBounds_toArray, List.set_cons_zero, List.set_cons_succ]
        refine wpAnyH_ready (rs := [13]) (by kernel_rfl) (by simp) ?_
        refine AllReadyH.cons rfl (fun K hK => ?_) AllReadyH.nil
        have s0 := NB3.out.cell 0
        have s1 := NB3.out.cell 1
        have s2 := NB3.out.soft 0
        have s3 := NB3.out.soft 1
        have hx := store_same NB3.out
        go_simp
        refine hK.out _ _ hx (fun hHeld => ?_)
        clear hK K s0 s1 s2 s3
        try simp only [Act.put, List.setIfInBounds_toArray, List.set_cons_zero, List.set_cons_succ]
        obtain ⟨Y4, hY⟩ : ∃ Y, Y = (Y3.setCell ⟨nb, 0, none⟩ (.int .i64 0)).setCell ⟨nb, 1, none⟩ (.slice none 0 0) := ⟨_, rfl⟩
        rw [← hY] at hx hHeld ⊢
        have XA4 := Lib.hid (XA3.out.trans hx)
        have XB4 := Lib.hid (XB3.out.trans hx)
        refine wpAnyH_now hHeld (fun hHeld2 => ?_)
        clear hY hx hHeld
        refine wpAnyH_ready (rs := [14]) (by kernel_rfl) (by simp) ?_
        refine AllReadyH.cons rfl (fun K hK => ?_) AllReadyH.nil
        go_simp
        refine hK.out _ _ (Ex.refl _) (fun hHeld => ?_)
        clear hK K
        try simp only [Act.put, List.setIfInBounds_toArray, List.set_cons_zero, List.set_cons_succ]
        refine wpAnyH_ready (rs := [15]) (by kernel_rfl) (by simp) ?_
        refine AllReadyH.cons rfl (fun K hK => ?_) AllReadyH.nil
        go_simp
        refine hK.out _ _ (Ex.refl _) (fun hHeld => ?_)
        clear hK K
        try simp only [Act.put, List.setIfInBounds_toArray, List.set_cons_zero, List.set_cons_succ]
        refine wpAnyH_done (by kernel_rfl) ?_ _
        clear hHeld
        have XE := Lib.hid XA4.out
        have XF := Lib.hid XB4.out
        obtain ⟨Z, hZ⟩ : ∃ Z, Z = Y4 := ⟨_, rfl⟩
        rw [← hZ] at XE XF ⊢
        clear hZ
        rotate_left
        go_simp
        refine hK.out _ _ (Ex.made _ _) (fun hHeld => ?_)
        clear hK K
        try simp only [Act.put, List.setIfInBounds_toArray, List.set_cons_zero, List.set_cons_succ]
        have hx := Ex.made Y0 (.cells #[.int .i64 0, .slice none 0 0] 24)
        have hn := Box.fresh Y0 #[.int .i64 0, .slice none 0 0] 24
        obtain ⟨nb, hnb⟩ : ∃ b, Y0.heap.size = b := ⟨_, rfl⟩
        rw [hnb] at hn ⊢
        obtain ⟨Y1, hY⟩ : ∃ Y, Y = Y0.alloc (.cells #[.int .i64 0, .slice none 0 0] 24) := ⟨_, rfl⟩
        rw [← hY] at hx hn hHeld ⊢
        have XA1 := Lib.hid (XA0.out.trans hx)
        have XB1 := Lib.hid (XB0.out.trans hx)
        have NB1 := Lib.hid hn
        refine wpAnyH_now hHeld (fun hHeld2 => ?_)
        clear hY hnb hx hn hHeld
        refine wpAnyH_ready (rs := [6]) (by kernel_rfl) (by simp) ?_
        refine AllReadyH.cons rfl (fun K hK => ?_) AllReadyH.nil
        have kcv := fun w : World => Lib.run_convert_string_bytes (P := Try.prog) w 9 25 5 (S.extract 0 1 ++ ⟨#[33]⟩ ++ S.extract 2 S.size) Try.underlying9 Try.underlying25 Try.underlying5
        go_simp
        refine hK.out _ _ (bytes_ex _ _ _) (fun hHeld => ?_)
        clear hK K kcv
        try simp only [Act.put, List.setIfInBounds_toArray, List.set_cons_zero, List.set_cons_succ]
        have hx := bytes_ex Y1 5 (S.extract 0 1 ++ ⟨#[33]⟩ ++ S.extract 2 S.size)
        have hk := fun n hn => K4.out n hn Y1
        obtain ⟨Y2, hY⟩ : ∃ Y, Y = Lib.bytesWorld Y1 5 (S.extract 0 1 ++ ⟨#[33]⟩ ++ S.extract 2 S.size) := ⟨_, rfl⟩
        rw [← hY] at hx hk hHeld ⊢
        have KC := Lib.hid hk
        have XA2 := Lib.hid (XA1.out.trans hx)
        have XB2 := Lib.hid (XB1.out.trans hx)
        have XC2 := Lib.hid (Ex.refl Y2)
        have NB2 := Lib.hid (NB1.out.ex hx)
        refine wpAnyH_now hHeld (fun hHeld2 => ?_)
        clear hY hx hk hHeld
        refine wpAnyH_ready (rs := [7]) (by kernel_rfl) (by simp) ?_
        refine AllReadyH.cons rfl (fun K hK => ?_) AllReadyH.nil
        go_simp
        go_at_call 11
        refine (KC.out _ (by rw [size_app, size_app, ByteArray.size_extract, ByteArray.size_extract]; show _ + 1 + _ = _; omega) _ XC2.out).mono ?_
        rintro e Y3 ⟨rfl, hx⟩
        refine hK.out _ _ hx (fun hHeld => ?_)
        clear hK K
        try simp only [Act.put, List.setIfInBounds_toArray, List.set_cons_zero, List.set_cons_succ]
        have XA3 := Lib.hid (XA2.out.trans hx)
        have XB3 := Lib.hid (XB2.out.trans hx)
        have NB3 := Lib.hid (NB2.out.ex hx)
        refine wpAnyH_now hHeld (fun hHeld2 => ?_)
        clear hx hHeld KC
        refine wpAnyH_take (i := 8) (v := ?_) rfl (by kernel_rfl) (by kernel_rfl) (by kernel_rfl) (fun _ _ _ h => h) (Or.inl ⟨by rfl, ?_⟩) (by assumption) ?_
        rotate_left
        · intro w hSw; (try dsimp only at hSw); go_simp; try with_reducible rfl
        try simp only [Act.put, List.setIfInBounds_toArray, List.set_cons_zero, List.set_cons_succ]
        refine wpAnyH_take (i := 9) (v := ?_) rfl (by kernel_rfl) (by kernel_rfl) (by kernel_rfl) (fun _ _ _ h => h) (Or.inl ⟨by rfl, ?_⟩) (by assumption) ?_
        rotate_left
        · intro w hSw; (try dsimp only at hSw); go_simp; try with_reducible rfl
        try simp only [Act.put, List.setIfInBounds_toArray, List.set_cons_zero, List.set_cons_succ]
        refine wpAnyH_take (i := 10) (v := ?_) rfl (by kernel_rfl) (by kernel_rfl) (by kernel_rfl) (fun _ _ _ h => h) (Or.inl ⟨by rfl, ?_⟩) (by assumption) ?_
        rotate_left
        · intro w hSw; (try dsimp only at hSw); go_simp; try with_reducible rfl
        try simp only [Act.put, List.setIfInBounds_toArray, List.set_cons_zero, List.set_cons_succ]
        refine wpAnyH_take (i := 11) (v := ?_) rfl (by kernel_rfl) (by kernel_rfl) (by kernel_rfl) (fun _ _ _ h => h) (Or.inl ⟨by rfl, ?_⟩) (by assumption) ?_
        rotate_left
        · intro w hSw; (try dsimp only at hSw); go_simp; try with_reducible rfl
        try simp only [Act.put, List.setIfInBounds_toArray, List.set_cons_zero, List.set_cons_succ]
        refine wpAnyH_ready (rs := [13]) (by kernel_rfl) (by simp) ?_
        refine AllReadyH.cons rfl (fun K hK => ?_) AllReadyH.nil
        have s0 := NB3.out.cell 0
        have s1 := NB3.out.cell 1
        have s2 := NB3.out.soft 0
        have s3 := NB3.out.soft 1
        have hx := store_same NB3.out
        go_simp
        refine hK.out _ _ hx (fun hHeld => ?_)
        clear hK K s0 s1 s2 s3
        try simp only [Act.put, List.setIfInBounds_toArray, List.set_cons_zero, List.set_cons_succ]
        obtain ⟨Y4, hY⟩ : ∃ Y, Y = (Y3.setCell ⟨nb, 0, none⟩ (.int .i64 0)).setCell ⟨nb, 1, none⟩ (.slice none 0 0) := ⟨_, rfl⟩
        rw [← hY] at hx hHeld ⊢
        have XA4 := Lib.hid (XA3.out.trans hx)
        have XB4 := Lib.hid (XB3.out.trans hx)
        refine wpAnyH_now hHeld (fun hHeld2 => ?_)
        clear hY hx hHeld
        refine wpAnyH_ready (rs := [14]) (by kernel_rfl) (by simp) ?_
        refine AllReadyH.cons rfl (fun K hK => ?_) AllReadyH.nil
        go_simp
        refine hK.out _ _ (Ex.refl _) (fun hHeld => ?_)
        clear hK K
        try simp only [Act.put, List.setIfInBounds_toArray, List.set_cons_zero, List.set_cons_succ]
        refine wpAnyH_ready (rs := [15]) (by kernel_rfl) (by simp) ?_
        refine AllReadyH.cons rfl (fun K hK => ?_) AllReadyH.nil
        go_simp
        refine hK.out _ _ (Ex.refl _) (fun hHeld => ?_)
        clear hK K
        try simp only [Act.put, List.setIfInBounds_toArray, List.set_cons_zero, List.set_cons_succ]
        refine wpAnyH_done (by kernel_rfl) ?_ _
        clear hHeld
        have XE := Lib.hid XA4.out
        have XF := Lib.hid XB4.out
        obtain ⟨Z, hZ⟩ : ∃ Z, Z = Y4 := ⟨_, rfl⟩
        rw [← hZ] at XE XF ⊢
        clear hZ
        rotate_left
        all_goals
          clear K4 XV6 X6 XF
          go_wp2_with fail
          refine (told_any Z).mono ?_
          rintro e w9 ⟨rfl, hx⟩
          have X9 := Lib.hid (XE.out.trans hx)
          clear hx
          go_wp2_with fail
          go_ret
          exact ⟨by simp, X9.out⟩

theorem walk_CodeEarly {w : World} {g : Int} {fv : Value} {F : List (List I4)} {ta : Option Addr} {tl tc : Nat} {zs : List Int} (pa : Int) (h : RdP w fv F)
    (hz : (ta = none ∧ tl = 0 ∧ tc = 0 ∧ zs = []) ∨ ∃ x, ta = some x ∧ tl ≤ tc ∧ tc ≤ maxLen ∧ zs.length = tc ∧ (∀ i, i < zs.length → w.cell? (x.add i) = some (.int .u8 (zs.getD i 0))) ∧ ∀ n ∈ zs, (Lit.int .u8 n).wf = true) :
    Calls Try.prog 3 #[.agg #[.int .i64 g, fv], .int .i64 pa, .slice ta tl tc] w fun e w' => e = .returned (.bool true) ∧ Below w.heap.size w w' :=
  early_walk pa h (fun hl => bs_of_row hz (by omega))

end Go.Proofs.Ytmajnjbjoagihaa
