/- TimerOrder. -/
import Derived.Test.YtofdlbnlfeocoaaOrder13P
import Derived.Test.YtofdlbnlfeocoaaTwice13
import Derived.IntWalk
namespace Go.Proofs.Ytofdlbnlfeocoaa
open Go.RowKit
set_option linter.unusedVariables false

def w20 (zs : List Int) (i : Nat) : Int := (zs.getD i 0).tmod 20
theorem w20_bd (zs : List Int) (i : Nat) : -20 < w20 zs i ∧ w20 zs i < 20 := by
  unfold w20
  have h1 := Int.tmod_lt_of_pos (zs.getD i 0) (b := 20) (by omega)
  have h2 := Int.lt_tmod_of_pos (zs.getD i 0) (b := 20) (by omega)
  omega

def boolsZ (I : List Bool) : Array Value := (I.map Value.bool).toArray
theorem boolsZ_at (I : List Bool) (k : Nat) (h : k < I.length) : (boolsZ I)[k]? = some (.bool (I.getD k false)) := by
  simp [boolsZ, h]
theorem boolsZ_set (I : List Bool) (k : Nat) (v : Bool) : (boolsZ I).setIfInBounds k (.bool v) = boolsZ (I.set k v) := by
  simp [boolsZ, List.map_set]
theorem boolsZ_rep (n : Nat) : Array.replicate n (Value.bool false) = boolsZ (List.replicate n false) := by
  simp [boolsZ]

theorem info_bool : (Try.prog.info? 4).map (fun i => (i.zero, i.size, i.bytes)) = some (some (.bool false), 1, 1) := by kernel_rfl
theorem make_bools (w : World) (n : Nat) (hn : n ≤ 100000) : (Instr.makeSlice 48 (.int .i64 (n : Int)) (.int .i64 (n : Int))).run Try.prog w = .ok (.slice (some ⟨w.heap.size, 0, none⟩) n n) (w.alloc (.cells (boolsZ (List.replicate n false)) 4)) := by
  obtain ⟨i0, hi, hz0, hz1, hz2⟩ := info_parts info_bool
  rw [run_makeSlice (P := Try.prog) w 48 4 i0 (.bool false) Try.underlying48 hi hz0 .i64 .i64 n n (by omega) (by omega) (by rw [hz1]; omega) (by rw [hz2]; omega) (by omega)]
  rw [hz1, Int.toNat_natCast, Nat.mul_one]
  congr 3
  apply Array.ext_getElem?
  intro k
  by_cases h : k < n
  · simp [madeCells, boolsZ, h, Value.cells, Nat.mod_one]
  · simp [madeCells, boolsZ, h]

set_option maxRecDepth 20000 in
set_option maxHeartbeats 12800000 in
theorem order_walk (a : Option Addr) (len cap : Nat) (zs : List Int) (w : World) (hlen : len ≤ 60)
    (hb : len = 0 ∨ ∃ b off, a = some ⟨b, off, none⟩ ∧ b < w.heap.size ∧ ∀ i, i < len → w.cell? ⟨b, off + i, none⟩ = some (.int .i64 (zs.getD i 0))) :
    Calls Try.prog 7 #[.slice a len cap] w fun e w' => e = .returned (.bool true) ∧ Ex w w' := by
  have HB := Lib.hid hb
  clear hb
  have hlen' : (len : Int) ≤ 60 := by omega
  go_enter Try.func7, Try.ntmps7
  go_wp2_with fail
  refine (ts_new w).mono ?_
  rintro e w1 ⟨rfl, h1, c1⟩
  have C1 := Lib.hid c1
  have H1 := Lib.hid h1
  clear h1 c1
  have hmk := make_bools w1 len (by omega)
  go_upto_region 7 with fail
  have B2 : Hid (Box (w1.alloc (.cells (boolsZ (List.replicate len false)) 4)) w1.heap.size (boolsZ (List.replicate len false)) 4) := Lib.hid (Box.fresh w1 _ _)
  have H2 := Lib.hid (H1.out.ex (Ex.made w1 (.cells (boolsZ (List.replicate len false)) 4)))
  have C2 := Lib.hid (C1.out.trans (Ex.made w1 (.cells (boolsZ (List.replicate len false)) 4)))
  have hib : w.heap.size < w1.heap.size := by have := H1.out.bl; omega
  obtain ⟨W2, hW2⟩ : ∃ W, W = w1.alloc (.cells (boolsZ (List.replicate len false)) 4) := ⟨_, rfl⟩
  rw [← hW2] at B2 H2 C2 ⊢
  clear hW2 hmk
  obtain ⟨ib, hib'⟩ : ∃ ib, w1.heap.size = ib := ⟨_, rfl⟩
  rw [hib'] at B2 hib ⊢
  clear hib'
  go_wp2_with fail
  go_loopw [5] (fun iv wr => ∃ (i : Nat) (I : List Bool) (S : List T3) (o : Option Nat), i ≤ len ∧ iv = .int .i64 i ∧ I.length = len ∧ Ord13 (w20 zs) i I S ∧ TS wr (w.heap.size + 1) w.heap.size o i S ∧ o ≠ some ib ∧ Box wr ib (boolsZ I) 4 ∧ Ex w wr) (fun iv _ => len - (intOf iv).toNat)
  case atStart => exact ⟨0, List.replicate len false, [], none, by omega, rfl, by simp, Ord13.nil _ _, H2.out, by simp, B2.out, C2.out⟩
  case round =>
    obtain ⟨i, I, S, o, hi, rfl, hI, hO, hT, ho, hB, hx⟩ := hrel
    have HI := Lib.hid hI
    have HO := Lib.hid hO
    have HT := Lib.hid hT
    have NO := Lib.hid ho
    have HBx := Lib.hid hB
    have HX := Lib.hid hx
    have hSl : S.length ≤ 60 := by have h1 := hO.count; have h2 := cnt_le I i; omega
    clear hI hO hT ho hB hx H2 C2 B2 H1 C1
    by_cases hlt : i < len
    · have hlt' : (i : Int) < (len : Int) := by omega
      obtain ⟨b, off, rfl, hbb, hcell⟩ := HB.out.resolve_left (by omega)
      obtain ⟨z, hzz⟩ : ∃ z, zs.getD i 0 = z := ⟨_, rfl⟩
      have hc : wr.cell? ⟨b, off + i, none⟩ = some (.int .i64 z) := by
        rw [← hzz, ← hcell i hlt]
        exact HX.out.cell (p := ⟨b, off + i, none⟩) hbb
      have t12 := w20_bd zs i
      obtain ⟨t, ht⟩ : ∃ m, z.tmod 20 = m := ⟨_, rfl⟩
      have htw : w20 zs i = t := by unfold w20; rw [hzz]; exact ht
      rw [htw] at t12
      have HTW := Lib.hid htw
      clear hcell hzz htw
      obtain ⟨t1, t2⟩ := t12
      go_wp2_with fail
      refine (ts_add HT.out (by omega) (by omega) t i).mono ?_
      rintro e w2 ⟨rfl, ⟨o2, h2, hn2⟩, c2⟩
      have AD := Lib.hid (HO.out.add (by rw [HI.out]; exact hlt))
      rw [HTW.out] at AD
      have H2 := Lib.hid h2
      have hib2 : ib < wr.heap.size := HBx.out.lt
      have N2 : Hid (o2 ≠ some ib) := Lib.hid (by
        rcases hn2 with rfl | ⟨g, rfl, hg⟩
        · exact NO.out
        · intro e; cases e; omega)
      have B2 := Lib.hid (HBx.out.chg c2 (by
        rintro (h | h)
        · omega
        · exact NO.out h))
      have X2 := Lib.hid (fb_ex HX.out HX.out.size (HT.out.fb c2))
      clear h2 hn2 c2
      have ci : w2.cell? ⟨ib, i, none⟩ = some (.bool (I.getD i false)) := by rw [B2.out.cell i]; exact boolsZ_at I i (by rw [HI.out]; exact hlt)
      have fi : w2.frozen? ⟨ib, i, none⟩ = false := B2.out.soft i
      obtain ⟨bi, hbi⟩ : ∃ x, I.getD i false = x := ⟨_, rfl⟩
      rw [hbi] at ci
      clear hbi hc
      have B3 : Hid (Box (w2.setCell ⟨ib, i, none⟩ (.bool true)) ib (boolsZ (I.set i true)) 4) := Lib.hid (by
        rw [← boolsZ_set]; exact B2.out.put i (.bool true))
      have cs : Chg (fun j => j = ib) w2 (w2.setCell ⟨ib, i, none⟩ (.bool true)) := Chg.cell (F := fun j => j = ib) w2 ⟨ib, i, none⟩ _ rfl
      have H3 := Lib.hid (H2.out.chg cs (by omega) (by intro g hg e; subst e; exact N2.out hg))
      have X3 : Hid (Ex w (w2.setCell ⟨ib, i, none⟩ (.bool true))) := Lib.hid (Below.trans X2.out (cs.below X2.out.size (fun j hj => by subst hj; omega)))
      clear cs
      by_cases h5 : i % 5 = 4
      · have e5 : ((i : Int) % 5 == 4) = true := by
          apply beq_iff_eq.2; omega
        go_upto_region 12 with fail
        obtain ⟨W3, hW3⟩ : ∃ W, W = w2.setCell ⟨ib, i, none⟩ (.bool true) := ⟨_, rfl⟩
        rw [← hW3] at B3 H3 X3 ⊢
        clear hW3 ci fi
        go_upto_region 14 with fail
        have hbk : ∃ k : Nat, (i : Int) / 2 = (k : Int) ∧ k ≤ i ∧ k < len := ⟨i / 2, by omega, by omega, by omega⟩
        obtain ⟨k, hk, hk1, hk2⟩ := hbk
        rw [hk]
        clear hk
        have hk3 : (k : Int) < (len : Int) := by omega
        have hI1 : (I.set i true).length = len := by rw [List.length_set]; exact HI.out
        obtain ⟨I1, hI1'⟩ : ∃ x, I.set i true = x := ⟨_, rfl⟩
        obtain ⟨S1, hS1'⟩ : ∃ x, insT (t, (i : Int), (i : Int) + 1) S = x := ⟨_, rfl⟩
        rw [hI1'] at AD hI1 B3
        rw [hS1'] at AD H2 H3
        obtain ⟨d1, d2, d3⟩ := AD.out.del k (by rw [hI1]; exact hk2)
        have d4 := AD.out.any k (by omega)
        obtain ⟨r, hr⟩ : ∃ r, I1.getD k false = r := ⟨_, rfl⟩
        rw [hr] at d4
        have D1 := Lib.hid d1
        have HI1 := Lib.hid hI1
        have hS1l : S1.length ≤ 61 := by rw [← hS1', (insT_perm _ _).length_eq]; simp; exact hSl
        have KD1 : Hid (∀ W, TS W (w.heap.size + 1) w.heap.size o2 (i + 1) S1 → Calls Try.prog 14 #[.pointer (some ⟨w.heap.size, 0, none⟩), .int .i64 (k : Int)] W fun e w' => e = .returned (.bool r) ∧ TS w' (w.heap.size + 1) w.heap.size o2 (i + 1) (delS k S1) ∧ Chg (Ob w.heap.size o2) W w') :=
          Lib.hid (fun W hW => (ts_del hW (by omega) k).mono fun e w' ⟨h1, h2, h3⟩ => ⟨by rw [h1, d4], h2, h3⟩)
        have hl2 : (delS (k : Int) S1).length ≤ 61 := Nat.le_trans (List.Sublist.length_le List.eraseP_sublist) hS1l
        have KD2 : Hid (∀ W, TS W (w.heap.size + 1) w.heap.size o2 (i + 1) (delS k S1) → Calls Try.prog 14 #[.pointer (some ⟨w.heap.size, 0, none⟩), .int .i64 (k : Int)] W fun e w' => e = .returned (.bool false) ∧ TS w' (w.heap.size + 1) w.heap.size o2 (i + 1) (delS k S1) ∧ Chg (Ob w.heap.size o2) W w') :=
          Lib.hid (fun W hW => (ts_del hW (by omega) k).mono fun e w' ⟨h1, h2, h3⟩ => ⟨by rw [h1, d2], by rw [d3] at h2; exact h2, h3⟩)
        have hbx0 : Box W3.drew ib (boolsZ I1) 4 := B3.out
        have hnF : ¬ Ob w.heap.size o2 ib := by
          rintro (h | h)
          · omega
          · exact N2.out h
        have KB : Hid (∀ w', Chg (Ob w.heap.size o2) W3.drew w' → w'.cell? ⟨ib, k, none⟩ = some (.bool r)) := Lib.hid (fun w' hc => by
          rw [(hbx0.chg hc hnF).cell k, boolsZ_at I1 k (by rw [HI1.out]; exact hk2), hr])
        have BF : Hid (∀ w', Chg (Ob w.heap.size o2) W3.drew w' → Box w' ib (boolsZ I1) 4) := Lib.hid (fun w' hc => hbx0.chg hc hnF)
        have ck : W3.cell? ⟨ib, k, none⟩ = some (.bool r) := KB.out W3.drew (Chg.refl _ _)
        have H4 : Hid (TS W3.drew (w.heap.size + 1) w.heap.size o2 (i + 1) S1) := Lib.hid (H3.out.ex (ex_drew W3))
        clear d1 d2 d3 d4 hr hS1' hI1' hI1 hbx0 hS1l hl2
        go_region_with (first | (go_at_call 14; (with_reducible refine (KD1.out _ H4.out).mono ?_); rintro e w4 ⟨rfl, h4, c4⟩; have ck4 := KB.out _ c4; have H5 := Lib.hid h4; have C5 := Lib.hid c4; clear h4 c4) | (go_at_call 14; (with_reducible refine (KD2.out _ H5.out).mono ?_); rintro e w5 ⟨rfl, h6, c6⟩; have H6 := Lib.hid h6; have C6 := Lib.hid c6; clear h6 c6))
        all_goals
          have X5 := Lib.hid (fb_ex (X3.out.trans (ex_drew W3)) (X3.out.trans (ex_drew W3)).size (H4.out.fb (C5.out.trans C6.out (fun _ _ h => h))))
          have B5 := Lib.hid (BF.out _ (C5.out.trans C6.out (fun _ _ h => h)))
          have ck5 := KB.out _ (C5.out.trans C6.out (fun _ _ h => h))
          have fk5 : w5.frozen? ⟨ib, k, none⟩ = false := B5.out.soft k
          clear ck4 ck
          have B6 : Hid (Box (w5.setCell ⟨ib, k, none⟩ (.bool false)) ib (boolsZ (I1.set k false)) 4) := Lib.hid (by
            rw [← boolsZ_set]; exact B5.out.put k (.bool false))
          have cs : Chg (fun j => j = ib) w5 (w5.setCell ⟨ib, k, none⟩ (.bool false)) := Chg.cell (F := fun j => j = ib) w5 ⟨ib, k, none⟩ _ rfl
          have H7 := Lib.hid (H6.out.chg cs (by omega) (by intro g hg e; subst e; exact N2.out hg))
          have X7 : Hid (Ex w (w5.setCell ⟨ib, k, none⟩ (.bool false))) := Lib.hid (Below.trans X5.out (cs.below X5.out.size (fun j hj => by subst hj; omega)))
          clear cs
          go_wp2_with fail
          go_roundw
          case rel => exact ⟨i + 1, I1.set k false, _, o2, by omega, by go_num, by rw [List.length_set]; exact HI1.out, D1.out, H7.out, N2.out, B6.out, X7.out⟩
          case measure => simp [intOf]; omega
      · have e5 : ((i : Int) % 5 == 4) = false := by
          apply beq_eq_false_iff_ne.2; omega
        go_wp2_with fail
        go_roundw
        case rel => exact ⟨i + 1, I.set i true, _, o2, by omega, by go_num, by rw [List.length_set]; exact HI.out, AD.out, H3.out, N2.out, B3.out, X3.out⟩
        case measure => simp [intOf]; omega
    · obtain rfl : i = len := by omega
      have e1 : ¬ (i : Int) < (i : Int) := by omega
      have KA := Lib.hid (ts_all HT.out (by omega))
      go_wp2_with fail
      refine KA.out.mono ?_
      rintro e w2 ⟨u, rfl, hr, hx2⟩
      have HR := Lib.hid hr
      have X2 := Lib.hid hx2
      have B2 := Lib.hid (HBx.out.ex hx2)
      have T2 := Lib.hid (HT.out.ex hx2)
      have HSC := Lib.hid HO.out.count
      have hsl : S.length ≤ 60 := hSl
      have hwr : w.heap.size ≤ wr.heap.size := HX.out.size
      clear hr hx2 KA e1
      obtain ⟨ua, uc, rfl⟩ := row_val HR.out
      go_wp2_with fail
      go_loop [8, 9] (fun nv iv => ∃ k : Nat, k ≤ i ∧ nv = .int .i64 ((cnt I k : Nat) : Int) ∧ iv = .int .i64 k) (fun _ iv => i - (intOf iv).toNat)
      case atStart => exact ⟨0, Nat.zero_le _, rfl, rfl⟩
      case round =>
        obtain ⟨k, hk, rfl, rfl⟩ := hrel
        by_cases hlt2 : k < i
        · have hlt3 : (k : Int) < (i : Int) := by omega
          have hc : w2.cell? ⟨ib, k, none⟩ = some (.bool (I.getD k false)) := by rw [B2.out.cell k]; exact boolsZ_at I k (by rw [HI.out]; exact hlt2)
          have CS := Lib.hid (cnt_succ I k)
          have cb := cnt_le I k
          have cb2 : cnt I k ≤ 60 := by omega
          obtain ⟨r, hr⟩ : ∃ r, I.getD k false = r := ⟨_, rfl⟩
          rw [hr] at hc CS
          clear hr
          cases r with
          | true =>
            go_wp2_with fail
            go_round
            case rel => exact ⟨k + 1, by omega, by rw [CS.out, if_pos rfl]; go_num, by go_num⟩
            case measure => simp [intOf]; omega
          | false =>
            go_wp2_with fail
            go_round
            case rel => exact ⟨k + 1, by omega, by rw [CS.out]; simp, by go_num⟩
            case measure => simp [intOf]; omega
        · obtain rfl : k = i := by omega
          rw [← HSC.out]
          have e2 : ¬ (k : Int) < (k : Int) := by omega
          have hq : (((S.length : Nat) : Int) != ((S.length : Nat) : Int)) = false := by simp
          have KL := Lib.hid (ts_len T2.out)
          go_wp2_with fail
          refine KL.out.mono ?_
          rintro e w' ⟨rfl, rfl⟩
          go_wp2_with fail
          clear KL hq e2
          obtain ⟨wo, rfl⟩ : ∃ wo : World, wo = wr := ⟨_, rfl⟩
          go_loopw [10] (fun iv wl => ∃ c : Nat, c ≤ S.length ∧ iv = .int .i64 c ∧ Ex w2 wl) (fun iv _ => S.length - (intOf iv).toNat)
          case atStart => exact ⟨0, Nat.zero_le _, rfl, Ex.refl _⟩
          case round =>
            obtain ⟨c, hc, rfl, hx3⟩ := hrel
            have X3 := Lib.hid hx3
            clear hx3
            by_cases hlt4 : c < S.length
            · have hlt5 : (c : Int) < ((S.length : Nat) : Int) := by omega
              obtain ⟨gs, rfl, hcap⟩ := some_row HR.out hlt4
              have hrow := row_chg (F := fun _ => False) HR.out (X3.out.chg _) (fun _ _ h => h)
              have acell : ∀ j : Nat, j < S.length → wr.cell? ⟨gs, j * 2, none⟩ = some (.int .i64 (at3 S j).1) ∧ wr.cell? ⟨gs, j * 2 + 1, none⟩ = some (.int .i64 (at3 S j).2.1) := by
                intro j hj
                obtain ⟨a0, a1⟩ := cells2_at S j hj
                rw [World.ownsRow.cellAt hrow (j * 2) (by omega), World.ownsRow.cellAt hrow (j * 2 + 1) (by omega), a0, a1]
                simp [at3, hj]
              obtain ⟨g, hg, hat, hig⟩ := HO.out.at c hlt4
              obtain ⟨b, off, rfl, hbb, hcell⟩ := HB.out.resolve_left (by omega)
              obtain ⟨z, hzz⟩ : ∃ z, zs.getD g 0 = z := ⟨_, rfl⟩
              have hcz : wr.cell? ⟨b, off + g, none⟩ = some (.int .i64 z) := by
                rw [← hzz, ← hcell g hg]
                exact ((HX.out.trans X2.out).trans X3.out).cell (p := ⟨b, off + g, none⟩) hbb
              obtain ⟨t, ht⟩ : ∃ m, z.tmod 20 = m := ⟨_, rfl⟩
              have htw : w20 zs g = t := by unfold w20; rw [hzz]; exact ht
              have hci : wr.cell? ⟨ib, g, none⟩ = some (.bool true) := by
                rw [(B2.out.ex X3.out).cell g, boolsZ_at I g (by rw [HI.out]; exact hg), hig]
              have hg2 : (g : Int) < (k : Int) := by omega
              obtain ⟨y0, y1⟩ := acell c hlt4
              rw [hat, htw] at y0
              rw [hat] at y1
              dsimp only at y0 y1
              have htt : (t != t) = false := by simp
              rw [htw] at hat
              by_cases hc0 : c = 0
              · subst hc0
                rw [Nat.zero_mul] at y0 y1
                clear acell hcell hrow htw hzz hat
                go_wp2_with fail
                go_quiet (fail)
                go_wp2_with fail
                go_quiet (fail)
                go_wp2_with fail
                go_roundw
                case rel => exact ⟨1, by omega, rfl, X3.out.trans (Ex.drawn _ _)⟩
                case measure => simp [intOf]; omega
              · obtain ⟨d, hdc⟩ : ∃ d, d + 1 = c := ⟨c - 1, by omega⟩
                obtain ⟨n1, n2⟩ := HO.out.next (by obtain ⟨v, m, -, -, h⟩ := HT.out; exact h.srt.sorted) d (by omega)
                rw [hdc] at n1 n2
                obtain ⟨g', hg', hat', -⟩ := HO.out.at d (by omega)
                obtain ⟨x0, x1⟩ := acell d (by omega)
                obtain ⟨t', htw'⟩ : ∃ t', w20 zs g' = t' := ⟨_, rfl⟩
                rw [htw'] at hat'
                rw [hat'] at x0 x1 n1 n2
                rw [hat] at n1 n2
                dsimp only at x0 x1 n1 n2
                have q1 : (c : Int) - 1 = (d : Int) := by omega
                have q2 : (0 : Int) < (c : Int) := by omega
                have q3 : (d : Int) < ((S.length : Nat) : Int) := by omega
                have d0 : decide (0 < c) = true := by simp; omega
                have q4 : Hid (d + 1 = c) := Lib.hid hdc
                have q5 : IntKind.i64.wrap ((c : Int) - 1) = (d : Int) := by rw [q1]; exact IntWalk.i64_in _ (by omega)
                have q6 : (0 : Int) ≤ (d : Int) := by omega
                have d1 : decide (t < t') = false := by simp; omega
                clear acell hcell hrow htw hzz hat hat' htw' hdc
                by_cases hE : t' = t
                · have e7 : (t' == t) = true := by simpa using hE
                  have e8 : decide (g ≤ g') = false := by have := n2 hE; simp; omega
                  clear hE n2
                  go_wp2_with fail
                  go_quiet (fail)
                  go_wp2_with fail
                  go_quiet (fail)
                  go_wp2_with fail
                  clear q1 q5 q6 q2 q3 d0 d1 x0 x1
                  go_roundw
                  case rel => exact ⟨c + 1, by omega, by go_num, X3.out.trans (Ex.drawn _ _)⟩
                  case measure => simp [intOf]; omega
                · have e7 : (t' == t) = false := by simpa using hE
                  clear hE n2
                  go_wp2_with fail
                  go_quiet (fail)
                  go_wp2_with fail
                  go_quiet (fail)
                  go_wp2_with fail
                  clear q1 q5 q6 q2 q3 d0 d1 x0 x1
                  go_roundw
                  case rel => exact ⟨c + 1, by omega, by go_num, X3.out.trans (Ex.drawn _ _)⟩
                  case measure => simp [intOf]; omega
            · obtain rfl : c = S.length := by omega
              have e2 : ¬ ((S.length : Nat) : Int) < ((S.length : Nat) : Int) := by omega
              have T3 := Lib.hid (T2.out.ex X3.out)
              have KD := Lib.hid (ts_due T3.out (by omega) 1099511627776)
              go_wp2_with fail
              refine KD.out.mono ?_
              rintro e w4 ⟨dv, rfl, hr, h4, c4⟩
              obtain ⟨f1, f2⟩ := due_far (S := S) 1099511627776 (fun p hp => by
                obtain ⟨g, -, rfl, -⟩ := HO.out.mem p hp
                have := w20_bd zs g
                dsimp only
                omega)
              rw [f1] at hr
              rw [f2] at h4
              have H4 := Lib.hid h4
              have R4 := Lib.hid hr
              have X4 := Lib.hid (fb_ex ((HX.out.trans X2.out).trans X3.out) ((HX.out.trans X2.out).trans X3.out).size (T3.out.fb c4))
              have hal : Hid (w4.ownsRow wo.heap.size 45 2 (.slice ua S.length uc) S.length (cells2 S)) := Lib.hid (row_chg (row_chg (F := fun _ => False) HR.out (X3.out.chg _) (fun _ _ h => h)) c4 (fun g hg hF => by
                have h1 := row_base HR.out g hg
                have h2 := HT.out.bl
                rcases hF with rfl | hF
                · omega
                · have := h2.2.2 g hF; omega))
              clear h4 hr c4 f1 f2 KD
              obtain ⟨da, dc, rfl⟩ := row_val R4.out
              have hdl : (S.map (fun p => p.2.1)).length = S.length := List.length_map _
              rw [hdl]
              have R5 : Hid (w4.ownsRow wr.heap.size 3 1 (.slice da S.length dc) S.length (intsZ (S.map (fun p => p.2.1)))) := Lib.hid (by have := R4.out; unfold TRow at this; rw [hdl] at this; exact this)
              clear R4 hdl e2
              obtain ⟨wp, rfl⟩ : ∃ wp : World, wp = wr := ⟨_, rfl⟩
              go_wp2_with fail
              go_loopw [13] (fun iv wl => ∃ c : Nat, c ≤ S.length ∧ iv = .int .i64 c ∧ Ex w4 wl) (fun iv _ => S.length - (intOf iv).toNat)
              case atStart => exact ⟨0, Nat.zero_le _, rfl, Ex.refl _⟩
              case round =>
                obtain ⟨c, hc, rfl, hx5⟩ := hrel
                have X5 := Lib.hid hx5
                clear hx5
                by_cases hlt4 : c < S.length
                · have hlt5 : (c : Int) < ((S.length : Nat) : Int) := by omega
                  obtain ⟨gs, rfl, hcap⟩ := some_row hal.out hlt4
                  obtain ⟨gd, rfl, hcap2⟩ := some_row R5.out hlt4
                  obtain ⟨x, hx⟩ : ∃ x, (at3 S c).2.1 = x := ⟨_, rfl⟩
                  have hy1 : wr.cell? ⟨gs, c * 2 + 1, none⟩ = some (.int .i64 x) := by
                    obtain ⟨a0, a1⟩ := cells2_at S c hlt4
                    rw [World.ownsRow.cellAt (row_chg (F := fun _ => False) hal.out (X5.out.chg _) (fun _ _ h => h)) (c * 2 + 1) (by omega), a1, ← hx]
                    simp [at3, hlt4]
                  have hy2 : wr.cell? ⟨gd, c, none⟩ = some (.int .i64 x) := by
                    rw [World.ownsRow.cellAt (row_chg (F := fun _ => False) R5.out (X5.out.chg _) (fun _ _ h => h)) c (by omega), ← hx]
                    simp [intsZ, at3, hlt4]
                  have hxx : (x != x) = false := by simp
                  clear hx
                  go_wp2_with fail
                  go_quiet (fail)
                  go_wp2_with fail
                  go_roundw
                  case rel => exact ⟨c + 1, by omega, by go_num, X5.out.trans (Ex.drawn _ _)⟩
                  case measure => simp [intOf]; omega
                · obtain rfl : c = S.length := by omega
                  have e2 : ¬ ((S.length : Nat) : Int) < ((S.length : Nat) : Int) := by omega
                  have e3 : (((S.length : Nat) : Int) == ((S.length : Nat) : Int)) = true := by simp
                  have T5 := Lib.hid (H4.out.ex X5.out)
                  go_wp2_with fail
                  refine (told_any wr).mono ?_
                  rintro e w8 ⟨rfl, h8⟩
                  have X8 := Lib.hid ((X4.out.trans X5.out).trans h8)
                  have H8 := Lib.hid (T5.out.ex h8)
                  clear h8
                  go_wp2_with fail
                  refine (ts_len H8.out).mono ?_
                  rintro e w' ⟨rfl, rfl⟩
                  go_wp2_with fail
                  go_ret
                  exact ⟨rfl, X8.out⟩

set_option maxRecDepth 20000 in
set_option maxHeartbeats 1600000 in
theorem order_great (a : Option Addr) (len cap : Nat) (w : World) (hlen : ¬ len ≤ 60) :
    Calls Try.prog 7 #[.slice a len cap] w fun e w' => e = .returned (.bool true) ∧ Ex w w' := by
  have hlen' : 60 < (len : Int) := by omega
  go_enter Try.func7, Try.ntmps7
  go_wp2_with fail
  refine (told_any w).mono ?_
  rintro e w3 ⟨rfl, h3⟩
  have X3 := Lib.hid h3
  clear h3
  go_wp2_with fail
  go_ret
  exact ⟨rfl, X3.out⟩

theorem walk_TimerOrder (a : Option Addr) (len cap : Nat) (zs : List Int) (w : World)
    (h : (a = none ∧ len = 0 ∧ cap = 0 ∧ zs = []) ∨ ∃ x, a = some x ∧ len ≤ cap ∧ cap ≤ maxLen ∧ zs.length = cap ∧ (∀ i, i < zs.length → w.cell? (x.add i) = some (.int .i64 (zs.getD i 0))) ∧ ∀ n ∈ zs, (Lit.int .i64 n).wf = true) :
    Calls Try.prog 7 #[.slice a len cap] w fun e w' => e = .returned (.bool true) ∧ Below w.heap.size w w' := by
  by_cases hg : len ≤ 60
  case neg => exact order_great a len cap w hg
  refine order_walk a len cap zs w hg ?_
  rcases h with ⟨rfl, rfl, rfl, rfl⟩ | ⟨⟨b, off, spot⟩, rfl, hl, hm, hz, hcell, _⟩
  · exact .inl rfl
  · by_cases h0 : len = 0
    · exact .inl h0
    · have hc := hcell 0 (by omega)
      have hspot : spot = none := by simpa [Addr.add] using World.cell?_spot hc
      subst hspot
      refine .inr ⟨b, off, rfl, ?_, ?_⟩
      · simp only [World.cell?, Addr.add, if_pos] at hc
        by_cases hlt : b < w.heap.size
        · exact hlt
        · rw [Array.getElem?_eq_none (by omega)] at hc
          cases hc
      · intro i hi
        rw [← hcell i (by omega)]
        by_cases hi0 : i = 0
        · subst hi0; simp [Addr.add]
        · simp [Addr.add, hi0]

end Go.Proofs.Ytofdlbnlfeocoaa
