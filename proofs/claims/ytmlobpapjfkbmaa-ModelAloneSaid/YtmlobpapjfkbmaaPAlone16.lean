/- ModelAlone: two models of one program do not see one another. -/
import Derived.Test.YtmlobpapjfkbmaaPTwo16
namespace Go.Proofs.Ytmlobpapjfkbmaa
open Go.RowKit
set_option linter.unusedVariables false
set_option maxRecDepth 20000
set_option linter.unusedSimpArgs false

/-- Turns, as they lie. -/
def TurnsAt (w : World) (a : Option Addr) (n : Nat) : Prop := n = 0 ∨ ∃ b off, a = some ⟨b, off, none⟩ ∧ b < w.heap.size ∧ ∀ i, i < n → ∃ t : Bool, w.cell? ⟨b, off + i, none⟩ = some (.bool t)
/-- How far the first loop has come. -/
structure AloneR (B : Nat) (w W : World) (a b : Nat) (F : Fns) (gn N : Nat) (i : Nat) (vx vy : Value) : Prop where
  ex : ∃ na nb, na ≤ i ∧ nb ≤ i ∧ RowC W B vx (cmsA F gn na) ∧ RowC W B vy (cmsA F gn nb) ∧ (∀ g, vx.ownBlock = some g → vy.ownBlock ≠ some g) ∧ Two B (fun j => vx.ownBlock = some j ∨ vy.ownBlock = some j) W a b F gn na (stA F gn na) nb (stA F gn nb)
  le : i ≤ N
  bel : Ex w W
theorem AloneR.next {B : Nat} {w W W' : World} {a b : Nat} {F : Fns} {gn N i : Nat} {vx vy : Value} (h : AloneR B w W a b F gn N i vx vy) (x : Ex W W') (hi : i < N) : AloneR B w W' a b F gn N (i + 1) vx vy := by
  obtain ⟨⟨na, nb, h1, h2, h3, h4, h5, h6⟩, h7, h8⟩ := h
  exact ⟨⟨na, nb, by omega, by omega, h3.ex x, h4.ex x, h5, h6.ex x⟩, hi, h8.trans x⟩
theorem AloneR.swap {B : Nat} {w W : World} {a b : Nat} {F : Fns} {gn N i : Nat} {vx vy : Value} (h : AloneR B w W a b F gn N i vx vy) : AloneR B w W b a F gn N i vy vx := by
  obtain ⟨⟨na, nb, h1, h2, h3, h4, h5, h6⟩, h7, h8⟩ := h
  refine ⟨⟨nb, na, h2, h1, h4, h3, fun g hg e => h5 g e hg, ?_⟩, h7, h8⟩
  exact h6.swap.wide (Chg.refl _ _) _ (fun j hj => .inl hj.symm)
/-- One's commit is kept: the row x grows. -/
theorem AloneR.grow {B : Nat} {w W2 W' : World} {a b : Nat} {F : Fns} {gn N i na nb g n cap : Nat} {vx vy : Value} (hx : RowC W2 B vx (cmsA F gn na)) (hy : RowC W2 B vy (cmsA F gn nb)) (hd : ∀ g, vx.ownBlock = some g → vy.ownBlock ≠ some g)
    (hT : Two B (fun j => vx.ownBlock = some j ∨ vy.ownBlock = some j) W2 a b F gn (na + 1) (stA F gn (na + 1)) nb (stA F gn nb)) (h1 : na ≤ i) (h2 : nb ≤ i) (hi : i < N) (hE : Ex w W2) (hB : w.heap.size = B)
    (r : RowC W' B (.slice (some ⟨g, 0, none⟩) n cap) (cmsA F gn (na + 1))) (gr : W2.grownBy W' vx.ownBlock) (ho : vx.ownBlock = some g ∨ W2.heap.size ≤ g) (hg : g < W'.heap.size) : AloneR B w W' a b F gn N (i + 1) (.slice (some ⟨g, 0, none⟩) n cap) vy := by
  have c : Chg (fun j => vx.ownBlock = some j) W2 W' := Chg.grown gr (fun j h => h)
  have hy' : RowC W' B vy (cmsA F gn nb) := row_chg hy c (fun j hj e => hd j e hj)
  refine ⟨⟨na + 1, nb, by omega, by omega, r, hy', fun j hj e => ?_, ?_⟩, hi, ?_⟩
  · have hgj : g = j := Option.some.inj hj
    subst hgj
    rcases ho with h | h
    · exact hd g h e
    · have := ((World.ownsRow.lt hy g e).2); omega
  · refine hT.wide (c.weak fun j _ h => .inl h) _ (fun j hj => ?_)
    rcases hj with hj | hj
    · have hgj : g = j := Option.some.inj hj
      subst hgj
      rcases ho with h | h
      · exact .inl (.inl h)
      · exact .inr ⟨h, hg⟩
    · exact .inl (.inr hj)
  · subst hB
    exact hE.grown gr hE.size (fun j hj => (World.ownsRow.lt hx j hj).1)

set_option maxRecDepth 10000 in
set_option maxHeartbeats 51200000 in
theorem alone_walk {w : World} {g : Int} {fv : Value} {F : Fns} (h : C15.RdP w fv F) (hF : F.length ≤ maxLen) (ta : Option Addr) (N tc : Nat) (ht : TurnsAt w ta N) (hnc : N ≤ maxLen) :
    Calls Try.prog 3 #[.agg #[.int .i64 g, fv], .slice ta N tc] w fun e w' => e = .returned (.bool true) ∧ Below w.heap.size w w' := by
  have HP := Lib.hid h
  obtain ⟨fa, fc, rfl⟩ := h.val
  have GR := Lib.hid (fun (W : World) (x : Ex w W) => C15.great_any (g := g) (HP.out.ex x) hF)
  have MR := Lib.hid (fun (W : World) (x : Ex w W) => C15.rmay_any (g := g) (HP.out.ex x))
  have HT := Lib.hid ht
  obtain ⟨mr, hmr⟩ : ∃ r, C15.mayI g F = r := ⟨_, rfl⟩
  rw [hmr] at MR
  have HMR := Lib.hid hmr
  obtain ⟨Fl, hFl⟩ : ∃ k, F.length = k := ⟨_, rfl⟩
  rw [hFl] at GR MR HP ⊢
  unfold maxLen at hF hnc
  clear h hmr ht
  have e0 := Ex.made w (.cells #[.int .i64 g, .slice fa Fl fc] 24)
  have b0 := Box.fresh w #[.int .i64 g, .slice fa Fl fc] 24
  go_enter Try.func3, Try.ntmps3
  go_upto_region 1 with fail
  generalize w.alloc (.cells #[.int .i64 g, .slice fa Fl fc] 24) = W at *
  have E0 := Lib.hid e0
  have B0 := Lib.hid b0
  have x0 : W.cell? ⟨w.heap.size, 0, none⟩ = some (.int .i64 g) := b0.cell 0
  have x1 : W.cell? ⟨w.heap.size, 1, none⟩ = some (.slice fa Fl fc) := b0.cell 1
  clear e0 b0
  go_wp2_with fail
  refine (GR.out W E0.out).mono ?_
  rintro e w1 ⟨⟨gt, rfl⟩, hx⟩
  have E1 := Lib.hid (E0.out.trans hx)
  have B1 := Lib.hid (B0.out.ex hx)
  clear E0 B0 x0 x1 hx GR
  have x0 : w1.cell? ⟨w.heap.size, 0, none⟩ = some (.int .i64 g) := B1.out.cell 0
  have x1 : w1.cell? ⟨w.heap.size, 1, none⟩ = some (.slice fa Fl fc) := B1.out.cell 1
  by_cases hgt : gt = true
  · subst hgt
    go_wp2_with fail
    refine (told_any w1).mono ?_
    rintro e w2 ⟨rfl, hx⟩
    go_wp2_with fail
    go_ret
    exact ⟨rfl, E1.out.trans hx⟩
  have hgt : gt = false := by simpa using hgt
  subst hgt
  go_wp2_with fail
  refine (MR.out w1 E1.out).mono ?_
  rintro e w2 ⟨rfl, hx⟩
  have E2 := Lib.hid (E1.out.trans hx)
  have B2 := Lib.hid (B1.out.ex hx)
  clear E1 B1 x0 x1 hx MR
  by_cases hm : mr ≠ 0
  · have hm2 : (mr != 0) = true := by simp [hm]
    go_wp2_with fail
    refine (told_any w2).mono ?_
    rintro e w3 ⟨rfl, hx⟩
    go_wp2_with fail
    go_ret
    exact ⟨rfl, E2.out.trans hx⟩
  have hm : mr = 0 := by omega
  subst hm
  by_cases hN : 200 < N
  · have hN2 : (200 : Int) < (N : Int) := by omega
    go_wp2_with fail
    refine (told_any w2).mono ?_
    rintro e w3 ⟨rfl, hx⟩
    go_wp2_with fail
    go_ret
    exact ⟨rfl, E2.out.trans hx⟩
  have hN2 : ¬ (200 : Int) < (N : Int) := by omega
  have hMB := C15.may_zero HMR.out
  obtain ⟨gn, rfl⟩ : ∃ gn : Nat, g = (gn : Int) := ⟨g.toNat, by have := hMB.g1; omega⟩
  have HMay : Hid (C15.mayI (gn : Int) F = 0) := HMR
  clear hMB HMR hN
  have x0 : w2.cell? ⟨w.heap.size, 0, none⟩ = some (.int .i64 (gn : Nat)) := B2.out.cell 0
  have x1 : w2.cell? ⟨w.heap.size, 1, none⟩ = some (.slice fa Fl fc) := B2.out.cell 1
  go_wp2_with fail
  refine (new_model HP.out E2.out HMay.out).mono ?_
  rintro e w3 ⟨a, rfl, ha⟩
  have HA := Lib.hid ha
  have xa : Ex w2 w3 := by obtain ⟨A, t, -, -, -, -, h5⟩ := ha; exact h5
  have E3 := Lib.hid (E2.out.trans xa)
  have B3 := Lib.hid (B2.out.ex xa)
  clear x0 x1 ha xa
  have x0 : w3.cell? ⟨w.heap.size, 0, none⟩ = some (.int .i64 (gn : Nat)) := B3.out.cell 0
  have x1 : w3.cell? ⟨w.heap.size, 1, none⟩ = some (.slice fa Fl fc) := B3.out.cell 1
  go_wp2_with fail
  refine (new_model HP.out E3.out HMay.out).mono ?_
  rintro e w4 ⟨b, rfl, hb⟩
  have HT4 := Lib.hid (new_two HA.out hb E2.out.size HMay.out)
  have xb : Ex w3 w4 := by obtain ⟨A, t, -, -, -, -, h5⟩ := hb; exact h5
  have E4 := Lib.hid (E3.out.trans xb)
  clear x0 x1 hb xb HA E2 E3 B2 B3
  go_wp2_with fail
  go_loopw [9, 10, 11] (fun vx vy iv V => ∃ i : Nat, i ≤ N ∧ iv = .int .i64 i ∧ AloneR w.heap.size w V a b F gn N i vx vy) (fun _ _ iv _ => N - (intOf iv).toNat)
  case atStart => exact ⟨0, Nat.zero_le _, rfl, ⟨⟨0, 0, Nat.le_refl _, Nat.le_refl _, RowC.nil _ _, RowC.nil _ _, (fun g hg => by cases hg), HT4.out.wide (Chg.refl _ _) _ (fun j hj => by rcases hj with h | h <;> cases h)⟩, Nat.zero_le _, E4.out⟩⟩
  case round =>
    clear HT4 E4
    obtain ⟨i, hi, rfl, hR⟩ := hrel
    have HR := Lib.hid hR
    clear hR
    by_cases hlt : i < N
    · obtain ⟨tb, to, rfl, tlt, tt⟩ : ∃ b off, ta = some ⟨b, off, none⟩ ∧ b < w.heap.size ∧ ∀ i, i < N → ∃ t : Bool, w.cell? ⟨b, off + i, none⟩ = some (.bool t) := by
        rcases HT.out with h | ⟨b, off, h1, h2, h3⟩
        · omega
        · exact ⟨b, off, h1, h2, h3⟩
      obtain ⟨turn, tcell⟩ := tt i hlt
      have tcell2 : wr.cell? ⟨tb, to + i, none⟩ = some (.bool turn) := (HR.out.bel.cell (p := ⟨tb, to + i, none⟩) tlt).trans tcell
      have q1 : (i : Int) < (N : Int) := by omega
      have q0 : (0 : Int) ≤ (i : Int) := by omega
      clear tt tcell
      cases turn with
      | true =>
        obtain ⟨⟨na, nb, hna, hnb, hx, hy, hd, hT⟩, -, hbel⟩ := HR.out
        have HXr := Lib.hid hx
        have HYr := Lib.hid hy
        have HD := Lib.hid hd
        have HTT := Lib.hid hT
        have HBel := Lib.hid hbel
        have I := hT.inv
        clear hx hy hd hT hbel
        by_cases hst : (stA F gn na).st.getD 0 0 = 1
        · have KD := Lib.hid (two_do HTT.out (by omega) (by have := I.sl; omega) (g := 0) (by have := I.g1; omega) hst)
          rw [show stepM F (stA F gn na) 0 = stA F gn (na + 1) from rfl] at KD
          unfold cmV at KD
          obtain ⟨c, hc⟩ : ∃ c, tells F (stA F gn na) 0 = c := ⟨_, rfl⟩
          rw [hc, show ((0 : Nat) : Int) = 0 from rfl] at KD
          have hsn : Hid (cmsA F gn na ++ [c] = cmsA F gn (na + 1)) := Lib.hid (hc ▸ cmsA_snoc F gn na)
          clear I hst hc
          go_wp2_with fail
          refine KD.out.mono ?_
          rintro e w5 ⟨rfl, h5, t5⟩
          have x6 := Ex.made w5 (.cells (cmL c).toArray 34)
          have b6 := Box.fresh w5 (cmL c).toArray 34
          have HT6 := Lib.hid (h5.ex x6)
          have hbl : ∀ g, u9.ownBlock = some g → ¬ (w.heap.size ≤ g ∧ ¬ (u9.ownBlock = some g ∨ u10.ownBlock = some g)) := fun g hg e => e.2 (.inl hg)
          have hbl2 : ∀ g, u10.ownBlock = some g → ¬ (w.heap.size ≤ g ∧ ¬ (u9.ownBlock = some g ∨ u10.ownBlock = some g)) := fun g hg e => e.2 (.inr hg)
          have HX6 := Lib.hid (RowC.ex (row_chg HXr.out t5 hbl) x6)
          have HY6 := Lib.hid (RowC.ex (row_chg HYr.out t5 hbl2) x6)
          have HB6 : Hid (Ex w (w5.alloc (.cells (cmL c).toArray 34))) := Lib.hid (Ex.trans (((HBel.out.chg (fun i => w.heap.size ≤ i)).trans (t5.weak (fun i _ hi => hi.1)) (fun _ _ h => h)).below (Nat.le_refl _) (fun i hi => hi)) x6)
          clear h5 t5 KD HXr HYr HTT HBel hbl hbl2 HR
          go_upto_region 14 with fail
          change Code.wp _ _ _ _ (w5.alloc (.cells (cmL c).toArray 34))
          obtain ⟨cb, hcb⟩ : ∃ k, w5.heap.size = k := ⟨_, rfl⟩
          rw [hcb] at b6 ⊢
          generalize w5.alloc (.cells (cmL c).toArray 34) = W6 at *
          have c0 : W6.cell? ⟨cb, 0, none⟩ = some (.int .i64 (c.g : Nat)) := b6.cell 0
          have c1 : W6.cell? ⟨cb, 1, none⟩ = some (.int .i64 (c.f : Nat)) := b6.cell 1
          have c2 : W6.cell? ⟨cb, 2, none⟩ = some (.int .i64 (c.pc : Nat)) := b6.cell 2
          have c3 : W6.cell? ⟨cb, 3, none⟩ = some (.int .i64 c.op) := b6.cell 3
          have c4 : W6.cell? ⟨cb, 4, none⟩ = some (.int .i64 c.v) := b6.cell 4
          have c5 : W6.cell? ⟨cb, 5, none⟩ = some (.bool c.bad) := b6.cell 5
          have x7 := Ex.made W6 (.cells #[.int .i64 (c.g : Nat), .int .i64 (c.f : Nat), .int .i64 (c.pc : Nat), .int .i64 c.op, .int .i64 c.v, .bool c.bad] 34)
          have HC7 := Lib.hid (Box.fresh W6 #[.int .i64 (c.g : Nat), .int .i64 (c.f : Nat), .int .i64 (c.pc : Nat), .int .i64 c.op, .int .i64 c.v, .bool c.bad] 34)
          have HX7 := Lib.hid (HX6.out.ex x7)
          have HY7 := Lib.hid (HY6.out.ex x7)
          have HT7 := Lib.hid (HT6.out.ex x7)
          have HB7 := Lib.hid (HB6.out.trans x7)
          have hln : (cmsA F gn na).length ≤ 100000 := by rw [cmsA_len]; omega
          clear x6 x7 b6 hcb HX6 HY6 HT6 HB6
          go_wp2_with (at_builtin; refine wpList_append_cm _ rfl (.tmp 71) (.tmp 73) rfl (B := w.heap.size) (l := cmsA F gn na) (c := c) rfl HX7.out HB7.out.size rfl HC7.out rfl hln hsn.out (cmsA_len F gn (na + 1)) ?_)
          intro rb cap w8 h1 h2 h3 h4 h5
          obtain ⟨n1, hn1⟩ : ∃ n, na + 1 = n := ⟨_, rfl⟩
          have HN := Lib.hid (AloneR.grow (a := a) (b := b) (N := N) (i := i) HX7.out HY7.out HD.out HT7.out hna hnb hlt HB7.out rfl h1 h2 (h3.imp id (fun h => by simpa using h)) h5)
          rw [hn1] at HN ⊢
          clear h1 h2 h3 h4 h5 hn1 HX7 HY7 HT7 HB7 HC7 c0 c1 c2 c3 c4 c5
          go_wp2
          go_roundw
          case rel => exact ⟨i + 1, by omega, by go_num, HN.out⟩
          case measure => simp [intOf]; omega
        · refine (two_cant HTT.out (g := 0) (by have := I.g1; omega) hst |> fun K => ?_)
          have KD := Lib.hid K
          rw [show ((0 : Nat) : Int) = 0 from rfl] at KD
          clear K I hst HXr HYr HD HTT HBel
          go_wp2_with fail
          refine KD.out.mono ?_
          rintro e w5 ⟨rfl, x5⟩
          have HN := Lib.hid (HR.out.next (Ex.trans x5 (Ex.made w5 (.cells #[.int .i64 0, .int .i64 0, .int .i64 0, .int .i64 0, .int .i64 0, .bool false] 34))) hlt)
          clear x5 KD HR
          unfold noCm
          go_wp2_with fail
          go_roundw
          case rel => exact ⟨i + 1, by omega, by go_num, HN.out⟩
          case measure => simp [intOf]; omega
      | false =>
        obtain ⟨⟨na, nb, hna, hnb, hx, hy, hd, hT⟩, -, hbel⟩ := HR.out.swap
        have HXr := Lib.hid hx
        have HYr := Lib.hid hy
        have HD := Lib.hid hd
        have HTT := Lib.hid hT
        have HBel := Lib.hid hbel
        have I := hT.inv
        clear hx hy hd hT hbel
        by_cases hst : (stA F gn na).st.getD 0 0 = 1
        · have KD := Lib.hid (two_do HTT.out (by omega) (by have := I.sl; omega) (g := 0) (by have := I.g1; omega) hst)
          rw [show stepM F (stA F gn na) 0 = stA F gn (na + 1) from rfl] at KD
          unfold cmV at KD
          obtain ⟨c, hc⟩ : ∃ c, tells F (stA F gn na) 0 = c := ⟨_, rfl⟩
          rw [hc, show ((0 : Nat) : Int) = 0 from rfl] at KD
          have hsn : Hid (cmsA F gn na ++ [c] = cmsA F gn (na + 1)) := Lib.hid (hc ▸ cmsA_snoc F gn na)
          clear I hst hc
          go_wp2_with fail
          refine KD.out.mono ?_
          rintro e w5 ⟨rfl, h5, t5⟩
          have x6 := Ex.made w5 (.cells (cmL c).toArray 34)
          have b6 := Box.fresh w5 (cmL c).toArray 34
          have HT6 := Lib.hid (h5.ex x6)
          have hbl : ∀ g, u10.ownBlock = some g → ¬ (w.heap.size ≤ g ∧ ¬ (u10.ownBlock = some g ∨ u9.ownBlock = some g)) := fun g hg e => e.2 (.inl hg)
          have hbl2 : ∀ g, u9.ownBlock = some g → ¬ (w.heap.size ≤ g ∧ ¬ (u10.ownBlock = some g ∨ u9.ownBlock = some g)) := fun g hg e => e.2 (.inr hg)
          have HX6 := Lib.hid (RowC.ex (row_chg HXr.out t5 hbl) x6)
          have HY6 := Lib.hid (RowC.ex (row_chg HYr.out t5 hbl2) x6)
          have HB6 : Hid (Ex w (w5.alloc (.cells (cmL c).toArray 34))) := Lib.hid (Ex.trans (((HBel.out.chg (fun i => w.heap.size ≤ i)).trans (t5.weak (fun i _ hi => hi.1)) (fun _ _ h => h)).below (Nat.le_refl _) (fun i hi => hi)) x6)
          clear h5 t5 KD HXr HYr HTT HBel hbl hbl2 HR
          go_upto_region 17 with fail
          change Code.wp _ _ _ _ (w5.alloc (.cells (cmL c).toArray 34))
          obtain ⟨cb, hcb⟩ : ∃ k, w5.heap.size = k := ⟨_, rfl⟩
          rw [hcb] at b6 ⊢
          generalize w5.alloc (.cells (cmL c).toArray 34) = W6 at *
          have c0 : W6.cell? ⟨cb, 0, none⟩ = some (.int .i64 (c.g : Nat)) := b6.cell 0
          have c1 : W6.cell? ⟨cb, 1, none⟩ = some (.int .i64 (c.f : Nat)) := b6.cell 1
          have c2 : W6.cell? ⟨cb, 2, none⟩ = some (.int .i64 (c.pc : Nat)) := b6.cell 2
          have c3 : W6.cell? ⟨cb, 3, none⟩ = some (.int .i64 c.op) := b6.cell 3
          have c4 : W6.cell? ⟨cb, 4, none⟩ = some (.int .i64 c.v) := b6.cell 4
          have c5 : W6.cell? ⟨cb, 5, none⟩ = some (.bool c.bad) := b6.cell 5
          have x7 := Ex.made W6 (.cells #[.int .i64 (c.g : Nat), .int .i64 (c.f : Nat), .int .i64 (c.pc : Nat), .int .i64 c.op, .int .i64 c.v, .bool c.bad] 34)
          have HC7 := Lib.hid (Box.fresh W6 #[.int .i64 (c.g : Nat), .int .i64 (c.f : Nat), .int .i64 (c.pc : Nat), .int .i64 c.op, .int .i64 c.v, .bool c.bad] 34)
          have HX7 := Lib.hid (HX6.out.ex x7)
          have HY7 := Lib.hid (HY6.out.ex x7)
          have HT7 := Lib.hid (HT6.out.ex x7)
          have HB7 := Lib.hid (HB6.out.trans x7)
          have hln : (cmsA F gn na).length ≤ 100000 := by rw [cmsA_len]; omega
          clear x6 x7 b6 hcb HX6 HY6 HT6 HB6
          go_wp2_with (at_builtin; refine wpList_append_cm _ rfl (.tmp 82) (.tmp 84) rfl (B := w.heap.size) (l := cmsA F gn na) (c := c) rfl HX7.out HB7.out.size rfl HC7.out rfl hln hsn.out (cmsA_len F gn (na + 1)) ?_)
          intro rb cap w8 h1 h2 h3 h4 h5
          obtain ⟨n1, hn1⟩ : ∃ n, na + 1 = n := ⟨_, rfl⟩
          have HN := Lib.hid (AloneR.grow (a := b) (b := a) (N := N) (i := i) HX7.out HY7.out HD.out HT7.out hna hnb hlt HB7.out rfl h1 h2 (h3.imp id (fun h => by simpa using h)) h5)
          rw [hn1] at HN ⊢
          clear h1 h2 h3 h4 h5 hn1 HX7 HY7 HT7 HB7 HC7 c0 c1 c2 c3 c4 c5
          go_wp2
          go_roundw
          case rel => exact ⟨i + 1, by omega, by go_num, HN.out.swap⟩
          case measure => simp [intOf]; omega
        · refine (two_cant HTT.out (g := 0) (by have := I.g1; omega) hst |> fun K => ?_)
          have KD := Lib.hid K
          rw [show ((0 : Nat) : Int) = 0 from rfl] at KD
          clear K I hst HXr HYr HD HTT HBel
          go_wp2_with fail
          refine KD.out.mono ?_
          rintro e w5 ⟨rfl, x5⟩
          have HN := Lib.hid (HR.out.next (Ex.trans x5 (Ex.made w5 (.cells #[.int .i64 0, .int .i64 0, .int .i64 0, .int .i64 0, .int .i64 0, .bool false] 34))) hlt)
          clear x5 KD HR
          unfold noCm
          go_wp2_with fail
          go_roundw
          case rel => exact ⟨i + 1, by omega, by go_num, HN.out⟩
          case measure => simp [intOf]; omega
    · obtain rfl : i = N := by omega
      have q1 : ¬ (i : Int) < (i : Int) := by omega
      obtain ⟨⟨na, nb, hna, hnb, hx, hy, hd, -⟩, -, hbel⟩ := HR.out
      have HXr := Lib.hid hx
      have HYr := Lib.hid hy
      have HBel := Lib.hid hbel
      obtain ⟨xo, xc, rfl⟩ := T13.row_val hx
      obtain ⟨yo, yc, rfl⟩ := T13.row_val hy
      obtain ⟨nx, hnx⟩ : ∃ n, (cmsA F gn na).length = n := ⟨_, rfl⟩
      obtain ⟨ny, hny⟩ : ∃ n, (cmsA F gn nb).length = n := ⟨_, rfl⟩
      rw [hnx] at HXr
      rw [hny] at HYr
      rw [hnx, hny]
      rw [cmsA_len] at hnx hny
      subst hnx hny
      clear hx hy hd hbel HR
      go_wp2_with fail
      go_loopw [16] (fun qv V => ∃ d : Nat, d ≤ na ∧ d ≤ nb ∧ qv = .int .i64 d ∧ Ex wr V) (fun qv _ => na - (intOf qv).toNat)
      case atStart => exact ⟨0, Nat.zero_le _, Nat.zero_le _, rfl, Ex.refl _⟩
      case round =>
        obtain ⟨d, hd1, hd2, rfl, hxx⟩ := hrel
        have HXX := Lib.hid hxx
        clear hxx
        by_cases hda : d < na
        · have p1 : (d : Int) < (na : Int) := by omega
          have p0 : (0 : Int) ≤ (d : Int) := by omega
          by_cases hdb : d < nb
          · have p2 : (d : Int) < (nb : Int) := by omega
            obtain ⟨xb, rfl⟩ : ∃ g, xo = some ⟨g, 0, none⟩ := by
              rcases row_shape HXr.out with ⟨h1, h2, -⟩ | ⟨g, cap, h1, -⟩
              · rw [cmsA_len] at h2; omega
              · injection h1 with h1 _ _; exact ⟨g, h1⟩
            obtain ⟨yb, rfl⟩ : ∃ g, yo = some ⟨g, 0, none⟩ := by
              rcases row_shape HYr.out with ⟨h1, h2, -⟩ | ⟨g, cap, h1, -⟩
              · rw [cmsA_len] at h2; omega
              · injection h1 with h1 _ _; exact ⟨g, h1⟩
            obtain ⟨c, hc⟩ : ∃ c, tells F (stA F gn d) 0 = c := ⟨_, rfl⟩
            have ax := cmsA_at F gn na d hda
            have ay := cmsA_at F gn nb d hdb
            rw [hc] at ax ay
            have X := HXr.out.ex HXX.out
            have Y := HYr.out.ex HXX.out
            have x0 : wr.cell? ⟨xb, d * 6, none⟩ = some (.int .i64 (c.g : Nat)) := X.cell ax (j := 0) (by omega) rfl
            have x1 : wr.cell? ⟨xb, d * 6 + 1, none⟩ = some (.int .i64 (c.f : Nat)) := X.cell ax (by omega) rfl
            have x2 : wr.cell? ⟨xb, d * 6 + 2, none⟩ = some (.int .i64 (c.pc : Nat)) := X.cell ax (by omega) rfl
            have x3 : wr.cell? ⟨xb, d * 6 + 3, none⟩ = some (.int .i64 c.op) := X.cell ax (by omega) rfl
            have x4 : wr.cell? ⟨xb, d * 6 + 4, none⟩ = some (.int .i64 c.v) := X.cell ax (by omega) rfl
            have x5 : wr.cell? ⟨xb, d * 6 + 5, none⟩ = some (.bool c.bad) := X.cell ax (by omega) rfl
            have y0 : wr.cell? ⟨yb, d * 6, none⟩ = some (.int .i64 (c.g : Nat)) := Y.cell ay (j := 0) (by omega) rfl
            have y1 : wr.cell? ⟨yb, d * 6 + 1, none⟩ = some (.int .i64 (c.f : Nat)) := Y.cell ay (by omega) rfl
            have y2 : wr.cell? ⟨yb, d * 6 + 2, none⟩ = some (.int .i64 (c.pc : Nat)) := Y.cell ay (by omega) rfl
            have y3 : wr.cell? ⟨yb, d * 6 + 3, none⟩ = some (.int .i64 c.op) := Y.cell ay (by omega) rfl
            have y4 : wr.cell? ⟨yb, d * 6 + 4, none⟩ = some (.int .i64 c.v) := Y.cell ay (by omega) rfl
            have y5 : wr.cell? ⟨yb, d * 6 + 5, none⟩ = some (.bool c.bad) := Y.cell ay (by omega) rfl
            clear ax ay X Y hc
            go_wp2_with fail
            go_quiet (fail)
            go_wp2_with fail
            go_roundw
            case rel => exact ⟨d + 1, by omega, by omega, by go_num, HXX.out.trans (Ex.drawn _ _)⟩
            case measure => simp [intOf]; omega
          · have p2 : ¬ (d : Int) < (nb : Int) := by omega
            go_wp2_with fail
            refine (told_any _).mono ?_
            rintro e w9 ⟨rfl, x9⟩
            have HE := Lib.hid ((HBel.out.trans HXX.out).trans x9)
            clear x9
            go_wp2_with fail
            go_ret
            exact ⟨rfl, HE.out⟩
        · have p1 : ¬ (d : Int) < (na : Int) := by omega
          go_wp2_with fail
          refine (told_any _).mono ?_
          rintro e w9 ⟨rfl, x9⟩
          have HE := Lib.hid ((HBel.out.trans HXX.out).trans x9)
          clear x9
          go_wp2_with fail
          go_ret
          exact ⟨rfl, HE.out⟩

end Go.Proofs.Ytmlobpapjfkbmaa
