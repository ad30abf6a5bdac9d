/- ModelPlays: a program goes as the document says, whoever is next. -/
import Derived.Test.YtmlobpapjfkbmaaGreatK19
import Derived.Test.YtmlobpapjfkbmaaGreatK15
namespace Go.Proofs.YtmlobpapjfkbmaaGreat
open Go.RowKit
set_option linter.unusedVariables false
set_option maxRecDepth 20000
set_option linter.unusedSimpArgs false

/-- Picks, as they lie. -/
def PicksAt (w : World) (a : Option Addr) (n : Nat) : Prop := n = 0 ∨ ∃ b off, a = some ⟨b, off, none⟩ ∧ b < w.heap.size ∧ ∀ i, i < n → ∃ x y : Int, w.cell? ⟨b, off + i * 2, none⟩ = some (.int .i64 x) ∧ w.cell? ⟨b, off + i * 2 + 1, none⟩ = some (.int .i64 y)
/-- How far the rounds have come. -/
structure PlayR (B : Nat) (w W : World) (mb xb : Nat) (F : Fns) (gn i : Nat) : Prop where
  ex : ∃ (K : Nat → Prop) (n : Nat) (m : MS), n ≤ i ∧ m.clock ≤ 500 * i ∧ Mo B K W mb F gn n m ∧ Ro B K W xb F m ∧ In2 m
  bel : Ex w W
theorem NewD.ro {B wb : Nat} {w w' : World} {xb gn mb : Nat} {F : Fns} {n : Nat} {m : MS} (h : NewD wb w xb gn F w') (hb : wb ≤ B) (hM : Mo B (fun _ => False) w mb F gn n m) :
    ∃ K, Mo B K w' mb F gn n m ∧ Ro B K w' xb F (m0 gn) ∧ Ex w w' := by
  obtain ⟨A, t, h1, h2, h3, h4, h5⟩ := h
  refine ⟨fun i => w.heap.size ≤ i ∧ i < w'.heap.size, hM.own h5 _ (fun i hi => .inr hi), ⟨A, t, h1, h2, by omega, fun i hi => ?_⟩, h5⟩
  rcases Nat.lt_or_ge i w.heap.size with hl | hl
  · rw [h4 i hl] at hi; exact absurd rfl hi
  · rcases Nat.lt_or_ge i w'.heap.size with hl2 | hl2
    · exact ⟨hl, hl2⟩
    · exact absurd (h2 i hl2) hi
theorem Mt.go {B : Nat} {K : Nat → Prop} {w V V' : World} (t : Mt B K V V') (h : Ex w V) (hB : w.heap.size ≤ B) : Ex w V' :=
  ((h.chg (fun i => w.heap.size ≤ i)).trans (t.weak (fun i _ hi => Nat.le_trans hB hi.1)) (fun _ _ h => h)).below (Nat.le_refl _) (fun i hi => hi)
theorem Chg.goK {B : Nat} {K : Nat → Prop} {w V V' : World} (c : Chg K V V') (h : Ex w V) (hB : w.heap.size ≤ B) (hk : ∀ i, K i → B ≤ i) : Ex w V' :=
  ((h.chg (fun i => w.heap.size ≤ i)).trans (c.weak (fun i _ hi => Nat.le_trans hB (hk i hi))) (fun _ _ h => h)).below (Nat.le_refl _) (fun i hi => hi)

theorem woke_len (m : MS) (j : Nat) : (wokeM m j).length ≤ m.sleep.length := by
  unfold wokeM T13.dueS
  rw [List.length_map]
  exact List.length_filter_le _ _
theorem row_keep {F : Nat → Prop} {w w' : World} {base : Nat} {v : Value} {l : List Nat} (h : w.ownsRow base 3 1 v l.length (S12.ints l)) (k : Chg F w w') (hF : ∀ g, F g → g < base) : Rn w' v l :=
  Rn.of (row_chg h k (fun g hg hf => by
    rcases row_shape h with ⟨h1, -⟩ | ⟨b, cap, h1, h2, -⟩
    · rw [h1] at hg; cases hg
    · rw [h1] at hg
      have : b = g := by simpa [Value.ownBlock] using hg
      have := hF g hf
      omega))

theorem PlayR.exs {B : Nat} {w W W' : World} {mb xb : Nat} {F : Fns} {gn i : Nat} (h : PlayR B w W mb xb F gn i) (x : Ex W W') : PlayR B w W' mb xb F gn i := by
  obtain ⟨⟨K, n, m, h1, h2, h3, h4, h5⟩, h6⟩ := h
  exact ⟨⟨K, n, m, h1, h2, h3.ex x, h4.ex x, h5⟩, h6.trans x⟩
theorem do_all {B : Nat} {K : Nat → Prop} {w : World} {mb xb : Nat} {F : Fns} {gn n : Nat} {m : MS} (h : Mo B K w mb F gn n m) (hr : Ro B K w xb F m) (h2 : In2 m) (hn : n ≤ 199) (g : Int) :
    Calls Tryz.prog 12 #[.pointer (some ⟨mb, 0, none⟩), .int .i64 g] w fun e w' => ∃ (g' f pc op v : Int) (bad : Bool) (err : Int) (m' : MS) (n' : Nat), e = .returned (.tuple #[.agg #[.int .i64 g', .int .i64 f, .int .i64 pc, .int .i64 op, .int .i64 v, .bool bad], .int .i64 err]) ∧ n' ≤ n + 1 ∧ m'.clock = m.clock ∧ In2 m' ∧ Mo B K w' mb F gn n' m' ∧ Mt B K w w' ∧
      ∀ (K' : Nat → Prop) (W : World) (m0 : MS) (n0 : Nat), Mo B K' W mb F gn n0 m0 → Ro B K' W xb F m →
        Calls Tryz.prog 13 #[.pointer (some ⟨xb, 0, none⟩), .int .i64 g] W fun e w' => e = .returned (.tuple #[.agg #[.int .i64 g', .int .i64 f, .int .i64 pc, .int .i64 op, .int .i64 v, .bool bad], .int .i64 err]) ∧ DocR B K' W mb xb F gn n0 m0 m' w' := by
  obtain ⟨g', f, pc, op, v, bad, err, m', n', h1, h3, h4, h5, h6⟩ := both_do h hr h2 hn g
  refine h5.mono ?_
  rintro e w' ⟨q1, q2, q3⟩
  exact ⟨g', f, pc, op, v, bad, err, m', n', q1, h1, h3, h4, q2, q3, h6⟩
theorem in2_tick2 {F : Fns} {gn n : Nat} {m : MS} (I : Inv F gn n m) (h : In2 m) (j : Nat) : In2 (tickM m j) := in2_tick I h j

set_option maxRecDepth 10000 in
set_option maxHeartbeats 51200000 in
theorem plays_walk {w : World} {g : Int} {fv : Value} {F : Fns} (h : C15.RdP w fv F) (hF : F.length ≤ maxLen) (ta : Option Addr) (N tc : Nat) (ht : PicksAt w ta N) (hnc : N ≤ maxLen) :
    Calls Tryz.prog 3 #[.agg #[.int .i64 g, fv], .slice ta N tc] w fun e w' => e = .returned (.bool true) ∧ Below w.heap.size w w' := by
  have HP := Lib.hid h
  obtain ⟨fa, fc, rfl⟩ := h.val
  have GR := Lib.hid (fun (W : World) (x : Ex w W) => C15.great_any (g := g) (HP.out.ex x) hF)
  have MR := Lib.hid (fun (W : World) (x : Ex w W) => C15.rmay_any (g := g) (HP.out.ex x))
  have HT := Lib.hid ht
  obtain ⟨mr, hmr⟩ : ∃ r, C15.mayI g F = r := ⟨_, rfl⟩
  rw [hmr] at MR
  have HMR := Lib.hid hmr
  obtain ⟨Fl, hFl⟩ : ∃ k, F.length = k := ⟨_, rfl⟩
  rw [hFl] at GR MR HP ⊢
  unfold maxLen at hF hnc
  clear h hmr ht
  have e0 := Ex.made w (.cells #[.int .i64 g, .slice fa Fl fc] 24)
  have b0 := Box.fresh w #[.int .i64 g, .slice fa Fl fc] 24
  go_enter Tryz.func3, Tryz.ntmps3
  go_upto_region 1 with fail
  generalize w.alloc (.cells #[.int .i64 g, .slice fa Fl fc] 24) = W at *
  have E0 := Lib.hid e0
  have B0 := Lib.hid b0
  have x0 : W.cell? ⟨w.heap.size, 0, none⟩ = some (.int .i64 g) := b0.cell 0
  have x1 : W.cell? ⟨w.heap.size, 1, none⟩ = some (.slice fa Fl fc) := b0.cell 1
  clear e0 b0
  go_wp2_with fail
  refine (GR.out W E0.out).mono ?_
  rintro e w1 ⟨⟨gt, rfl⟩, hx⟩
  have E1 := Lib.hid (E0.out.trans hx)
  have B1 := Lib.hid (B0.out.ex hx)
  clear E0 B0 x0 x1 hx GR
  have x0 : w1.cell? ⟨w.heap.size, 0, none⟩ = some (.int .i64 g) := B1.out.cell 0
  have x1 : w1.cell? ⟨w.heap.size, 1, none⟩ = some (.slice fa Fl fc) := B1.out.cell 1
  by_cases hgt : gt = true
  · subst hgt
    go_wp2_with fail
    refine (told_any w1).mono ?_
    rintro e w2 ⟨rfl, hx⟩
    go_wp2_with fail
    go_ret
    exact ⟨rfl, E1.out.trans hx⟩
  have hgt : gt = false := by simpa using hgt
  subst hgt
  go_wp2_with fail
  refine (MR.out w1 E1.out).mono ?_
  rintro e w2 ⟨rfl, hx⟩
  have E2 := Lib.hid (E1.out.trans hx)
  have B2 := Lib.hid (B1.out.ex hx)
  clear E1 B1 x0 x1 hx MR
  by_cases hm : mr ≠ 0
  · have hm2 : (mr != 0) = true := by simp [hm]
    go_wp2_with fail
    refine (told_any w2).mono ?_
    rintro e w3 ⟨rfl, hx⟩
    go_wp2_with fail
    go_ret
    exact ⟨rfl, E2.out.trans hx⟩
  have hm : mr = 0 := by omega
  subst hm
  have hMB := C15.may_zero HMR.out
  obtain ⟨gn, rfl⟩ : ∃ gn : Nat, g = (gn : Int) := ⟨g.toNat, by have := hMB.g1; omega⟩
  have HMay : Hid (C15.mayI (gn : Int) F = 0) := HMR
  clear hMB HMR
  have x0 : w2.cell? ⟨w.heap.size, 0, none⟩ = some (.int .i64 (gn : Nat)) := B2.out.cell 0
  have x1 : w2.cell? ⟨w.heap.size, 1, none⟩ = some (.slice fa Fl fc) := B2.out.cell 1
  go_wp2_with fail
  refine (new_model HP.out E2.out HMay.out).mono ?_
  rintro e w3 ⟨mb, rfl, ha⟩
  obtain ⟨hmo, hmx⟩ := new_mo ha E2.out.size HMay.out (inv_m0 (C15.may_zero HMay.out).n1)
  have HM3 := Lib.hid hmo
  have E3 := Lib.hid (E2.out.trans hmx)
  have HBW : Hid (w.heap.size ≤ w2.heap.size) := Lib.hid E2.out.size
  have B3 := Lib.hid (B2.out.ex hmx)
  clear x0 x1 ha hmo hmx E2 B2
  obtain ⟨B, hB⟩ : ∃ B, w2.heap.size = B := ⟨_, rfl⟩
  rw [hB] at HM3 HBW
  have hgn32 := may_gn HMay.out
  have x0 : w3.cell? ⟨w.heap.size, 0, none⟩ = some (.int .i64 (gn : Nat)) := B3.out.cell 0
  have x1 : w3.cell? ⟨w.heap.size, 1, none⟩ = some (.slice fa Fl fc) := B3.out.cell 1
  go_wp2_with fail
  refine (rnew_any HP.out E3.out hgn32).mono ?_
  rintro e w4 ⟨xb, rfl, hd⟩
  obtain ⟨K0, hm4, hr4, hx4⟩ := hd.ro HBW.out HM3.out
  have HP4 : Hid (PlayR B w w4 mb xb F gn 0) := Lib.hid ⟨⟨K0, 0, m0 gn, Nat.le_refl _, Nat.le_refl _, hm4, hr4, in2_m0 gn⟩, E3.out.trans hx4⟩
  clear x0 x1 hd hm4 hr4 hx4 HM3 E3 B3
  go_wp2_with fail
  go_loopw [8] (fun iv V => ∃ i : Nat, i ≤ N ∧ i ≤ 150 ∧ iv = .int .i64 i ∧ PlayR B w V mb xb F gn i) (fun iv _ => N - (intOf iv).toNat)
  case atStart => exact ⟨0, Nat.zero_le _, Nat.zero_le _, rfl, HP4.out⟩
  case round =>
    clear HP4
    obtain ⟨i, hi, hi150, rfl, hR⟩ := hrel
    obtain ⟨⟨K, n, m, hni, hcl, hmo, hro, h2⟩, hbel⟩ := hR
    have HM := Lib.hid hmo
    have HRo := Lib.hid hro
    have H2 := Lib.hid h2
    have HBel := Lib.hid hbel
    clear hmo hro h2 hbel
    by_cases hlt : i < N ∧ i < 150
    · obtain ⟨hlt1, hlt2⟩ := hlt
      obtain ⟨tb, to, rfl, tlt, tt⟩ : ∃ b off, ta = some ⟨b, off, none⟩ ∧ b < w.heap.size ∧ ∀ i, i < N → ∃ x y : Int, w.cell? ⟨b, off + i * 2, none⟩ = some (.int .i64 x) ∧ w.cell? ⟨b, off + i * 2 + 1, none⟩ = some (.int .i64 y) := by
        rcases HT.out with h | ⟨b, off, h1, h2, h3⟩
        · omega
        · exact ⟨b, off, h1, h2, h3⟩
      obtain ⟨G, T, tG, tT⟩ := tt i hlt1
      have cT : wr.cell? ⟨tb, to + i * 2 + 1, none⟩ = some (.int .i64 T) := (HBel.out.cell (p := ⟨tb, to + i * 2 + 1, none⟩) tlt).trans tT
      have q1 : (i : Int) < (N : Int) := by omega
      have q2 : (i : Int) < 150 := by omega
      have q0 : (0 : Int) ≤ (i : Int) := by omega
      obtain ⟨tk, htk⟩ : ∃ k, T.tmod 500 = k := ⟨_, rfl⟩
      have htk1 : tk < 500 ∧ -500 < tk := by
        have h1 := Int.tmod_lt_of_pos T (show (0 : Int) < 500 by omega)
        have h2 := Int.lt_tmod_of_pos T (show (0 : Int) < 500 by omega)
        omega
      clear tt tT
      have HTL := Lib.hid tlt
      have HTG := Lib.hid tG
      have hcl0 := hcl
      have HI := Lib.hid HM.out.inv
      have H2I := Lib.hid (fun j => in2_tick2 HI.out H2.out j)
      by_cases hk0 : tk = 0
      case' pos =>
        subst hk0
        have HX5 : Hid (∃ (K5 : Nat → Prop) (n5 : Nat) (m5 : MS), n5 ≤ i ∧ m5.clock ≤ 500 * (i + 1) ∧ Mo B K5 wr mb F gn n5 m5 ∧ Ro B K5 wr xb F m5 ∧ In2 m5) := Lib.hid ⟨K, n, m, hni, by omega, HM.out, HRo.out, H2.out⟩
        have HB5 : Hid (Ex w wr) := HBel
        clear HM HRo H2 HI H2I HBel hcl hcl0 hni
        go_upto_region 13 with fail
        clear cT
        generalize wr = Y at *
      case' neg =>
        have hj : tk.toNat < 500 := by omega
        obtain ⟨j, hjn⟩ : ∃ j, tk.toNat = j := ⟨_, rfl⟩
        rw [hjn] at hj
        have KT := Lib.hid (mo_tick HM.out (by have := HI.out.sl; omega) tk j hjn (by omega) (by omega))
        have KD := Lib.hid (fun (W : World) (m0 : MS) (hM : Mo B K W mb F gn n m0) (hR : Ro B K W xb F m) => doc_tick HI.out H2.out (by omega) (by omega) tk j (by omega) hjn hM hR)
        have KL : Hid ((wokeM m j).length ≤ 100000) := Lib.hid (Nat.le_trans (woke_len m j) (by have := HI.out.sl; omega))
        have KC : Hid ((tickM m j).clock ≤ 500 * (i + 1)) := Lib.hid (by show m.clock + j ≤ _; omega)
        have K2 := Lib.hid (H2I.out j)
        clear hjn H2I
        go_upto_region 11 with fail
        clear cT
        go_wp2_with fail
        refine KT.out.mono ?_
        rintro e w5 ⟨⟨u, rfl, hu⟩, h5, t5⟩
        have HU := Lib.hid hu
        have HM5 := Lib.hid h5
        have HR5 := Lib.hid (HRo.out.mt t5)
        have HB5 := Lib.hid (t5.go HBel.out HBW.out)
        have HK5 : Hid (∀ g, K g → g < wr.heap.size) := Lib.hid HM.out.kb
        clear h5 t5 KT hu HM HRo H2 HBel
        go_wp2_with fail
        refine (KD.out w5 (tickM m j) HM5.out HR5.out).mono ?_
        rintro e w6 ⟨⟨u2, rfl, hu2⟩, K6, hk6, h6, r6, c6⟩
        have HU1 := Lib.hid (row_keep HU.out c6 HK5.out)
        have HU2 := Lib.hid (Rn.of hu2)
        have HM6 := Lib.hid h6
        have HR6 := Lib.hid r6
        have HB6 := Lib.hid (c6.goK HB5.out HBW.out HM5.out.kl)
        clear h6 r6 c6 hu2 hk6 HM5 HR5 HU HB5 KD HK5
        go_wp2_with fail
        refine (ints_same KL.out HU1.out HU2.out).mono ?_
        rintro e Y ⟨rfl, x7⟩
        have HX5 : Hid (∃ (K5 : Nat → Prop) (n5 : Nat) (m5 : MS), n5 ≤ i ∧ m5.clock ≤ 500 * (i + 1) ∧ Mo B K5 Y mb F gn n5 m5 ∧ Ro B K5 Y xb F m5 ∧ In2 m5) := Lib.hid ⟨K6, n, tickM m j, hni, KC.out, HM6.out.ex x7, HR6.out.ex x7, K2.out⟩
        have HB5 : Hid (Ex w Y) := Lib.hid (HB6.out.trans x7)
        clear HM6 HR6 HB6 HU1 HU2 KL KC K2 HI hcl hcl0 hni x7 hj
        go_upto_region 13 with fail
      all_goals
        obtain ⟨K5, n5, m5, hn5, hc5, hm5, hr5, h25⟩ := HX5.out
        have HM5 := Lib.hid hm5
        have HR5 := Lib.hid hr5
        have H25 := Lib.hid h25
        have hgl : m5.gs.length ≤ 1024 := HM5.out.inv.g1k
        obtain ⟨gl, hgle⟩ : ∃ k, m5.gs.length = k := ⟨_, rfl⟩
        have HG5 : Hid (∃ a c, Y.cell? ⟨xb, 2, none⟩ = some (.slice a gl c)) := Lib.hid (by
          obtain ⟨A, t, r1, -⟩ := HR5.out
          obtain ⟨a, c, e⟩ := T13.row_val r1.grow.row
          rw [hgle] at e
          refine ⟨a, c, ?_⟩
          rw [← e]; exact r1.box.box.cell 2)
        rw [hgle] at hgl
        clear hgle hm5 hr5 h25 HX5
        obtain ⟨ga, gc, d2⟩ := HG5.out
        have cG : Y.cell? ⟨tb, to + i * 2, none⟩ = some (.int .i64 G) := (HB5.out.cell (p := ⟨tb, to + i * 2, none⟩) HTL.out).trans HTG.out
        have w1 : IntKind.i64.wrap ((gl : Int) + 1) = (gl : Int) + 1 := by rw [IntKind.wrap_i64]; omega
        have w2 : ¬ ((gl : Int) + 1 = 0) := by omega
        have KDo := Lib.hid (fun (g : Int) => do_all HM5.out HR5.out H25.out (by omega) g)
        go_wp2_with fail
        all_goals
          refine (KDo.out _).mono ?_
          rintro e w6 ⟨g', f', pc', op', v', bad', err', m6, n6, rfl, hn6, hc6, h26, h6, t6, hdoc⟩
          have HM6 := Lib.hid h6
          have HR6 := Lib.hid (HR5.out.mt t6)
          have HB6 := Lib.hid (t6.go HB5.out HBW.out)
          have HD6 := Lib.hid hdoc
          have H26 := Lib.hid h26
          have HK6 : Hid (¬ K5 w6.heap.size) := Lib.hid (fun h => by have := HM5.out.kb _ h; have := t6.size; omega)
          clear h6 t6 hdoc h26 HM5 HR5 H25 HG5 d2 cG KDo HB5 w1 w2 hgl
          go_upto_region 17 with fail
          have cb := Box.fresh w6 #[.int .i64 g', .int .i64 f', .int .i64 pc', .int .i64 op', .int .i64 v', .bool bad'] 50
          have cx := Ex.made w6 (.cells #[.int .i64 g', .int .i64 f', .int .i64 pc', .int .i64 op', .int .i64 v', .bool bad'] 50)
          generalize w6.alloc (.cells #[.int .i64 g', .int .i64 f', .int .i64 pc', .int .i64 op', .int .i64 v', .bool bad'] 50) = W7 at *
          obtain ⟨c1, hc1⟩ : ∃ k, w6.heap.size = k := ⟨_, rfl⟩
          rw [hc1] at cb HK6 ⊢
          have HM7 := Lib.hid (HM6.out.ex cx)
          have HR7 := Lib.hid (HR6.out.ex cx)
          have HB7 := Lib.hid (HB6.out.trans cx)
          have CB7 := Lib.hid cb
          clear cb cx hc1 HM6 HR6 HB6
          go_wp2_with fail
          refine (HD6.out K5 W7 m6 n6 HM7.out HR7.out).mono ?_
          rintro e w8 ⟨rfl, K8, hk8, h8, r8, c8⟩
          have HM8 := Lib.hid h8
          have HR8 := Lib.hid r8
          have HB8 := Lib.hid (c8.goK HB7.out HBW.out HM7.out.kl)
          have CB8 := Lib.hid (CB7.out.chg c8 HK6.out)
          clear h8 r8 c8 hk8 HM7 HR7 HB7 CB7 HD6 HK6
          go_upto_region 18 with fail
          have cb := Box.fresh w8 #[.int .i64 g', .int .i64 f', .int .i64 pc', .int .i64 op', .int .i64 v', .bool bad'] 50
          have cx := Ex.made w8 (.cells #[.int .i64 g', .int .i64 f', .int .i64 pc', .int .i64 op', .int .i64 v', .bool bad'] 50)
          generalize w8.alloc (.cells #[.int .i64 g', .int .i64 f', .int .i64 pc', .int .i64 op', .int .i64 v', .bool bad'] 50) = W9 at *
          obtain ⟨c2, hc2⟩ : ∃ k, w8.heap.size = k := ⟨_, rfl⟩
          rw [hc2] at cb ⊢
          have HM9 := Lib.hid (HM8.out.ex cx)
          have HR9 := Lib.hid (HR8.out.ex cx)
          have HB9 := Lib.hid (HB8.out.trans cx)
          have ka := CB8.out.ex cx
          have a0 : W9.cell? ⟨c1, 0, none⟩ = some (.int .i64 g') := ka.cell 0
          have a1 : W9.cell? ⟨c1, 1, none⟩ = some (.int .i64 f') := ka.cell 1
          have a2 : W9.cell? ⟨c1, 2, none⟩ = some (.int .i64 pc') := ka.cell 2
          have a3 : W9.cell? ⟨c1, 3, none⟩ = some (.int .i64 op') := ka.cell 3
          have a4 : W9.cell? ⟨c1, 4, none⟩ = some (.int .i64 v') := ka.cell 4
          have a5 : W9.cell? ⟨c1, 5, none⟩ = some (.bool bad') := ka.cell 5
          have b0 : W9.cell? ⟨c2, 0, none⟩ = some (.int .i64 g') := cb.cell 0
          have b1 : W9.cell? ⟨c2, 1, none⟩ = some (.int .i64 f') := cb.cell 1
          have b2 : W9.cell? ⟨c2, 2, none⟩ = some (.int .i64 pc') := cb.cell 2
          have b3 : W9.cell? ⟨c2, 3, none⟩ = some (.int .i64 op') := cb.cell 3
          have b4 : W9.cell? ⟨c2, 4, none⟩ = some (.int .i64 v') := cb.cell 4
          have b5 : W9.cell? ⟨c2, 5, none⟩ = some (.bool bad') := cb.cell 5
          clear cb cx hc2 ka HM8 HR8 HB8 CB8
          go_upto_region 20 with fail
          clear a0 a1 a2 a3 a4 a5 b0 b1 b2 b3 b4 b5
          have HP10 : Hid (PlayR B w W9 mb xb F gn (i + 1)) := Lib.hid ⟨⟨K8, n6, m6, by omega, by omega, HM9.out, HR9.out, H26.out⟩, HB9.out⟩
          have KS := Lib.hid (rsame_any HM9.out HR9.out H26.out (by omega))
          by_cases h9 : i % 10 = 9
          · have h9' : (i : Int).tmod 10 = 9 := by rw [Int.tmod_eq_emod_of_nonneg (by omega)]; omega
            clear HM9 HR9 HB9 H26
            go_wp2_with fail
            refine KS.out.mono ?_
            rintro e w10 ⟨rfl, x10⟩
            have HP11 : Hid (PlayR B w w10 mb xb F gn (i + 1)) := Lib.hid (HP10.out.exs x10)
            clear KS HP10 x10
            go_wp2_with fail
            go_roundw
            case rel => exact ⟨i + 1, by omega, by omega, by go_num, HP11.out⟩
            case measure => simp [intOf]; omega
          · have h9' : ((i : Int).tmod 10 == 9) = false := by rw [Int.tmod_eq_emod_of_nonneg (by omega), beq_eq_false_iff_ne]; omega
            clear HM9 HR9 HB9 H26
            go_wp2_with fail
            go_roundw
            case rel => exact ⟨i + 1, by omega, by omega, by go_num, HP10.out⟩
            case measure => simp [intOf]; omega
    · have q : ¬ ((i : Int) < (N : Int)) ∨ ((i : Int) < (N : Int) ∧ ¬ (i : Int) < 150) := by omega
      have HS : Hid (n ≤ 200) := Lib.hid (by omega)
      clear hlt hi hni hcl
      rcases q with q1 | ⟨q1, q2⟩
      all_goals
        go_wp2_with fail
        refine (told_any wr).mono ?_
        rintro e w2 ⟨rfl, x2⟩
        go_wp2_with fail
        refine (rsame_any (HM.out.ex x2) (HRo.out.ex x2) H2.out HS.out).mono ?_
        rintro e w3 ⟨rfl, x3⟩
        go_wp2_with fail
        go_ret
        exact ⟨rfl, HBel.out.trans (x2.trans x3)⟩

end Go.Proofs.YtmlobpapjfkbmaaGreat
