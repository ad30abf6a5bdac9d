/- ModelReach: what was reachable and is not any more never comes back; what is new is reachable as it comes. -/
import Derived.Test.YtmlobpapjfkbmaaPReachP16
import Derived.Test.YtmlobpapjfkbmaaPPut16
import Derived.Test.YtmlobpapjfkbmaaPTwo16
namespace Go.Proofs.Ytmlobpapjfkbmaa
open Go.RowKit
set_option linter.unusedVariables false
set_option maxRecDepth 20000
set_option linter.unusedSimpArgs false

/-- Picks, as they lie. -/
def PicksAt (w : World) (a : Option Addr) (n : Nat) : Prop := n = 0 ∨ ∃ b off, a = some ⟨b, off, none⟩ ∧ b < w.heap.size ∧ ∀ i, i < n → ∃ x y : Int, w.cell? ⟨b, off + i * 2, none⟩ = some (.int .i64 x) ∧ w.cell? ⟨b, off + i * 2 + 1, none⟩ = some (.int .i64 y)

/-- How a model goes on: what can be reached then. -/
structure NextR (m m' : MS) (err op v : Int) : Prop where
  old : ∀ i, i < m.slots.length → Rch m' i → Rch m i
  le : m.slots.length ≤ m'.slots.length
  new : err = 0 → op = 1 → ∃ id : Nat, v = (id : Int) ∧ id ∈ rchL m'
def DoR (B : Nat) (K : Nat → Prop) (w : World) (mb : Nat) (F : Fns) (gn n : Nat) (m : MS) (e : Ending) (w' : World) : Prop :=
  ∃ (g f pc op v : Int) (bad : Bool) (err : Int) (n' : Nat) (m' : MS), e = .returned (.tuple #[.agg #[.int .i64 g, .int .i64 f, .int .i64 pc, .int .i64 op, .int .i64 v, .bool bad], .int .i64 err]) ∧ Mo B K w' mb F gn n' m' ∧ Mt B K w w' ∧ n' ≤ n + 1 ∧ m'.clock = m.clock ∧ NextR m m' err op v
theorem mo_any {B : Nat} {K : Nat → Prop} {w : World} {mb : Nat} {F : Fns} {gn n : Nat} {m : MS} (h : Mo B K w mb F gn n m) (hn : n ≤ 800) {g : Nat} (hg : g < m.gs.length) :
    Calls Try.prog 16 #[.pointer (some ⟨mb, 0, none⟩), .int .i64 (g : Nat)] w (DoR B K w mb F gn n m) := by
  by_cases h1 : m.st.getD g 0 = 1
  · refine (mo_do h (by omega) (by have := h.inv.sl; omega) hg h1).mono ?_
    rintro e w' ⟨rfl, q1, q2⟩
    refine ⟨_, _, _, _, _, _, _, _, _, rfl, q1, q2, Nat.le_refl _, stepM_clock .., ?_⟩
    have hs := rch_step h.inv h.may hg h1
    refine ⟨fun i hi r => (hs i r).resolve_right (by omega), ?_, fun _ ho => ?_⟩
    · obtain ⟨op, a, b, c, hi, -, -⟩ := inst_fit h.may (h.inv.fn g hg)
      unfold stepM
      rw [hi]
      simp only [Int.toNat_natCast]
      unfold opM
      dsimp only
      split <;> first | exact Nat.le_refl _ | (show _ ≤ (m.slots ++ [_]).length; simp) | (split <;> first | exact Nat.le_refl _ | (show _ ≤ (m.slots.set _ _).length; simp))
    · obtain ⟨k1, k2, k3⟩ := rch_new h.inv h.may hg h1 ho
      exact ⟨m.slots.length, k1, mem_rchL.2 ⟨by omega, k2⟩⟩
  · refine (mo_cant h hg h1).mono ?_
    rintro e w' ⟨rfl, q⟩
    exact ⟨_, _, _, _, _, _, _, _, _, rfl, h.ex q, Mt.ex q, Nat.le_succ _, rfl, ⟨fun i _ r => r, Nat.le_refl _, fun h => absurd h (by decide)⟩⟩
theorem Rn.keep {B : Nat} {K : Nat → Prop} {w w' : World} {v : Value} {l : List Nat} (h : Rn w v l) (t : Mt B K w w') (hk : ∀ b, v.ownBlock = some b → K b) : Rn w' v l := by
  obtain ⟨a, cap, rfl, h1, h2, h3⟩ := h
  refine ⟨a, cap, rfl, h1, h2, fun j hj => ?_⟩
  obtain ⟨g, off, rfl, hg, hc⟩ := h3 j hj
  have hb := t.block g hg (fun e => e.2 (hk g rfl))
  refine ⟨g, off, rfl, Nat.lt_of_lt_of_le hg t.size, ?_⟩
  rw [World.cell?_of_block (w := w) hb]; exact hc
theorem rchL_len {m : MS} : (rchL m).length ≤ m.slots.length := by
  classical
  unfold rchL
  have := List.length_filter_le (fun i => decide (Rch m i)) (List.range m.slots.length)
  simpa using this
theorem put_grown {w w' : World} {K : Nat → Prop} {u v : Value} (h : u = v ∨ ∀ b, u.ownBlock = some b → w.heap.size ≤ b) (hk : ∀ b, v.ownBlock = some b → K b) (hl : ∀ b, u.ownBlock = some b → b < w'.heap.size) : ∀ b, u.ownBlock = some b → K b ∨ (w.heap.size ≤ b ∧ b < w'.heap.size) := fun b hb => by
  rcases h with rfl | h
  · exact .inl (hk b hb)
  · exact .inr ⟨h b hb, hl b hb⟩
theorem step_store_cm {ops : Array Oper} {o : Oper} {a : Act} {K : Act → World → Prop} {Q : Exit → Act → World → Prop} {E : Prop} {Y : World} {b : Nat} {g f pc op v g' f' pc' op' v' : Int} {bad bad' : Bool} (hgd : o.guard = none) (hd : o.dst = none) (p q : Tmp)
    (ho : o.op = .store 34 (.tmp p) (.tmp q)) (hp : a.eval (.tmp p) = .pointer (some ⟨b, 0, none⟩)) (hv : a.eval (.tmp q) = .agg (ccells g f pc op v bad))
    (hb : Box Y b (ccells g' f' pc' op' v' bad') 34) (k : K a (put6 Y b g f pc op v bad)) : if Region.wanted o (yielded ops a.tmps) = true then Oper.wp Try.prog o a Y K Q else E := by
  have c0 : Y.cell? ⟨b, 0, none⟩ = some (.int .i64 g') := hb.cell 0
  have c1 : Y.cell? ⟨b, 1, none⟩ = some (.int .i64 f') := hb.cell 1
  have c2 : Y.cell? ⟨b, 2, none⟩ = some (.int .i64 pc') := hb.cell 2
  have c3 : Y.cell? ⟨b, 3, none⟩ = some (.int .i64 op') := hb.cell 3
  have c4 : Y.cell? ⟨b, 4, none⟩ = some (.int .i64 v') := hb.cell 4
  have c5 : Y.cell? ⟨b, 5, none⟩ = some (.bool bad') := hb.cell 5
  have f0 := hb.soft 0
  have f1 := hb.soft 1
  have f2 := hb.soft 2
  have f3 := hb.soft 3
  have f4 := hb.soft 4
  have f5 := hb.soft 5
  unfold ccells at hv
  unfold put6 at k
  clear hb
  have hw : Region.wanted o (yielded ops a.tmps) = true := by simp [Region.wanted, hgd]
  rw [if_pos hw]
  unfold Oper.wp execOp
  simp only [ho, hp, hv]
  go_simp
  exact k
/-- What the region leaves. -/
structure AfterR (B : Nat) (w Z : World) (K : Nat → Prop) (mb : Nat) (F : Fns) (gn n' : Nat) (m' : MS) (cb : Nat) (g f pc op v : Int) (bad : Bool) (vg vw : Value) (LG LW : List Nat) : Prop where
  mo : ∃ K', (∀ i, K i → K' i) ∧ Mo B K' Z mb F gn n' m'
  box : Box Z cb (ccells g f pc op v bad) 34
  rg : Rn Z vg LG
  rw : Rn Z vw LW
  ex : Ex w Z
theorem AfterR.late {B : Nat} {w Y Z : World} {K : Nat → Prop} {mb : Nat} {F : Fns} {gn n' : Nat} {m' : MS} {g f pc op v : Int} {bad : Bool} {vg vw : Value} {LG LW : List Nat} (h : Mo B K Y mb F gn n' m') (hg : Rn Y vg LG) (hw : Rn Y vw LW) (he : Ex w Y) (hZ : Z = put6 (Y.alloc (.cells #[.int .i64 0, .int .i64 0, .int .i64 0, .int .i64 0, .int .i64 0, .bool false] 34)) Y.heap.size g f pc op v bad) : AfterR B w Z K mb F gn n' m' Y.heap.size g f pc op v bad vg vw LG LW := by
  have b0 := Box.fresh Y #[.int .i64 0, .int .i64 0, .int .i64 0, .int .i64 0, .int .i64 0, .bool false] 34
  have x0 := Ex.made Y (.cells #[.int .i64 0, .int .i64 0, .int .i64 0, .int .i64 0, .int .i64 0, .bool false] 34)
  have c := put6_chg (Y.alloc (.cells #[.int .i64 0, .int .i64 0, .int .i64 0, .int .i64 0, .int .i64 0, .bool false] 34)) Y.heap.size g f pc op v bad
  have x : Ex Y Z := by
    rw [hZ]
    exact ((x0.chg (fun _ => False)).trans c (fun i hi h => absurd h (by omega))).below (Nat.le_refl _) (fun i hi => hi.elim)
  refine ⟨⟨K, fun _ h => h, h.ex x⟩, ?_, hg.ex x, hw.ex x, he.trans x⟩
  rw [hZ]
  exact put6_box (b0 : Box _ _ (ccells 0 0 0 0 0 false) _) g f pc op v bad
theorem AfterR.early {B : Nat} {w Y Z : World} {K : Nat → Prop} {mb : Nat} {F : Fns} {gn n' cb : Nat} {m' : MS} {g f pc op v : Int} {bad : Bool} {vg vw : Value} {LG LW : List Nat} (h : Mo B (fun i => K i ∨ i = cb) Y mb F gn n' m') (hb : Box Y cb (ccells 0 0 0 0 0 false) 34) (hg : Rn Y vg LG) (hw : Rn Y vw LW) (hng : vg.ownBlock ≠ some cb) (hnw : vw.ownBlock ≠ some cb) (he : Ex w Y) (hwb : w.heap.size ≤ cb) (hZ : Z = put6 Y cb g f pc op v bad) : AfterR B w Z K mb F gn n' m' cb g f pc op v bad vg vw LG LW := by
  have c : Chg (fun i => i = cb) Y Z := by rw [hZ]; exact put6_chg Y cb g f pc op v bad
  have RN : ∀ {u : Value} {l : List Nat}, Rn Y u l → u.ownBlock ≠ some cb → Rn Z u l := fun {u l} hr hn => by
    obtain ⟨a, cap, rfl, h1, h2, h3⟩ := hr
    refine ⟨a, cap, rfl, h1, h2, fun j hj => ?_⟩
    obtain ⟨g, off, rfl, hg, hc⟩ := h3 j hj
    have hbk := c.block g hg (fun e => hn (by rw [← e]; rfl))
    refine ⟨g, off, rfl, Nat.lt_of_lt_of_le hg c.size, ?_⟩
    rw [World.cell?_of_block (w := Y) hbk]; exact hc
  refine ⟨⟨_, fun _ h => .inl h, h.mine (c.weak fun i _ hi => .inr hi)⟩, by rw [hZ]; exact put6_box hb g f pc op v bad, RN hg hng, RN hw hnw, ?_⟩
  exact ((he.chg (fun i => w.heap.size ≤ i)).trans (c.weak fun i _ hi => by rw [hi]; exact hwb) (fun _ _ h => h)).below (Nat.le_refl _) (fun i hi => hi)

/-- How far the rounds have come. -/
structure ReachR (B : Nat) (w W : World) (mb : Nat) (F : Fns) (gn i : Nat) (vg vw : Value) : Prop where
  ex : ∃ (K : Nat → Prop) (n : Nat) (m : MS) (LG : List Nat), n ≤ i ∧ m.clock ≤ 500 * i ∧ Mo B K W mb F gn n m ∧ Rn W vg LG ∧ Rn W vw (rchL m) ∧ (∀ b, vg.ownBlock = some b → K b) ∧ (∀ b, vw.ownBlock = some b → K b) ∧ LG.length ≤ 200 * i ∧ ∀ y ∈ LG, y < m.slots.length ∧ ¬ Rch m y
  bel : Ex w W

theorem rn_lt {w : World} {v : Value} {l : List Nat} {b x : Nat} (h : Rn w v l) (hx : x ∈ l) (hb : v.ownBlock = some b) : b < w.heap.size := by
  obtain ⟨a, cap, rfl, h1, h2, h3⟩ := h
  obtain ⟨g, off, rfl, hg, -⟩ := h3 0 (List.length_pos_of_mem hx)
  cases hb
  exact hg
/-- What is gone, while it grows. -/
structure GoneR (K : Nat → Prop) (Y V : World) (vg : Value) (m' : MS) (b : Nat) : Prop where
  ex : Ex Y V
  row : ∃ LK, Rn V vg LK ∧ LK.length ≤ b ∧ ∀ y ∈ LK, y < m'.slots.length ∧ ¬ Rch m' y
  own : ∀ b, vg.ownBlock = some b → K b ∨ (Y.heap.size ≤ b ∧ b < V.heap.size)

set_option maxRecDepth 10000 in
set_option maxHeartbeats 51200000 in
theorem reach_walk {w : World} {g : Int} {fv : Value} {F : Fns} (h : C15.RdP w fv F) (hF : F.length ≤ maxLen) (ta : Option Addr) (N tc : Nat) (ht : PicksAt w ta N) (hnc : N ≤ maxLen) :
    Calls Try.prog 10 #[.agg #[.int .i64 g, fv], .slice ta N tc] w fun e w' => e = .returned (.bool true) ∧ Below w.heap.size w w' := by
  have HP := Lib.hid h
  obtain ⟨fa, fc, rfl⟩ := h.val
  have GR := Lib.hid (fun (W : World) (x : Ex w W) => C15.great_any (g := g) (HP.out.ex x) hF)
  have MR := Lib.hid (fun (W : World) (x : Ex w W) => C15.rmay_any (g := g) (HP.out.ex x))
  have HT := Lib.hid ht
  obtain ⟨mr, hmr⟩ : ∃ r, C15.mayI g F = r := ⟨_, rfl⟩
  rw [hmr] at MR
  have HMR := Lib.hid hmr
  obtain ⟨Fl, hFl⟩ : ∃ k, F.length = k := ⟨_, rfl⟩
  rw [hFl] at GR MR HP ⊢
  unfold maxLen at hF hnc
  clear h hmr ht
  have e0 := Ex.made w (.cells #[.int .i64 g, .slice fa Fl fc] 24)
  have b0 := Box.fresh w #[.int .i64 g, .slice fa Fl fc] 24
  go_enter Try.func10, Try.ntmps10
  go_upto_region 1 with fail
  generalize w.alloc (.cells #[.int .i64 g, .slice fa Fl fc] 24) = W at *
  have E0 := Lib.hid e0
  have B0 := Lib.hid b0
  have x0 : W.cell? ⟨w.heap.size, 0, none⟩ = some (.int .i64 g) := b0.cell 0
  have x1 : W.cell? ⟨w.heap.size, 1, none⟩ = some (.slice fa Fl fc) := b0.cell 1
  clear e0 b0
  go_wp2_with fail
  refine (GR.out W E0.out).mono ?_
  rintro e w1 ⟨⟨gt, rfl⟩, hx⟩
  have E1 := Lib.hid (E0.out.trans hx)
  have B1 := Lib.hid (B0.out.ex hx)
  clear E0 B0 x0 x1 hx GR
  have x0 : w1.cell? ⟨w.heap.size, 0, none⟩ = some (.int .i64 g) := B1.out.cell 0
  have x1 : w1.cell? ⟨w.heap.size, 1, none⟩ = some (.slice fa Fl fc) := B1.out.cell 1
  by_cases hgt : gt = true
  · subst hgt
    go_wp2_with fail
    refine (told_any w1).mono ?_
    rintro e w2 ⟨rfl, hx⟩
    go_wp2_with fail
    go_ret
    exact ⟨rfl, E1.out.trans hx⟩
  have hgt : gt = false := by simpa using hgt
  subst hgt
  go_wp2_with fail
  refine (MR.out w1 E1.out).mono ?_
  rintro e w2 ⟨rfl, hx⟩
  have E2 := Lib.hid (E1.out.trans hx)
  have B2 := Lib.hid (B1.out.ex hx)
  clear E1 B1 x0 x1 hx MR
  by_cases hm : mr ≠ 0
  · have hm2 : (mr != 0) = true := by simp [hm]
    go_wp2_with fail
    refine (told_any w2).mono ?_
    rintro e w3 ⟨rfl, hx⟩
    go_wp2_with fail
    go_ret
    exact ⟨rfl, E2.out.trans hx⟩
  have hm : mr = 0 := by omega
  subst hm
  have hMB := C15.may_zero HMR.out
  obtain ⟨gn, rfl⟩ : ∃ gn : Nat, g = (gn : Int) := ⟨g.toNat, by have := hMB.g1; omega⟩
  have HMay : Hid (C15.mayI (gn : Int) F = 0) := HMR
  clear hMB HMR
  have x0 : w2.cell? ⟨w.heap.size, 0, none⟩ = some (.int .i64 (gn : Nat)) := B2.out.cell 0
  have x1 : w2.cell? ⟨w.heap.size, 1, none⟩ = some (.slice fa Fl fc) := B2.out.cell 1
  go_wp2_with fail
  refine (new_model HP.out E2.out HMay.out).mono ?_
  rintro e w3 ⟨mb, rfl, ha⟩
  obtain ⟨hmo, hmx⟩ := new_mo ha E2.out.size HMay.out (inv_m0 (C15.may_zero HMay.out).n1)
  have HM3 := Lib.hid hmo
  have E3 := Lib.hid (E2.out.trans hmx)
  have HBW : Hid (w.heap.size ≤ w2.heap.size) := Lib.hid E2.out.size
  clear x0 x1 ha hmo hmx E2 B2
  obtain ⟨B, hB⟩ : ∃ B, w2.heap.size = B := ⟨_, rfl⟩
  rw [hB] at HM3 HBW
  go_wp2_with fail
  have KR := Lib.hid (mo_reach HM3.out (by omega))
  refine KR.out.mono ?_
  rintro e w4 ⟨u, rfl, hrow, x4⟩
  have HR4 := Lib.hid (Rn.of hrow)
  have HM4 := Lib.hid (HM3.out.own x4 (fun i => w3.heap.size ≤ i ∧ i < w4.heap.size) (fun i hi => .inr hi))
  have HK4 : Hid (∀ b, u.ownBlock = some b → w3.heap.size ≤ b ∧ b < w4.heap.size) := Lib.hid (World.ownsRow.lt hrow)
  have E4 := Lib.hid (E3.out.trans x4)
  clear hrow x4 KR HM3 E3
  go_wp2_with fail
  go_loopw [7, 8, 9] (fun vg vw iv V => ∃ i : Nat, i ≤ N ∧ i ≤ 150 ∧ iv = .int .i64 i ∧ ReachR B w V mb F gn i vg vw) (fun _ _ iv _ => N - (intOf iv).toNat)
  case atStart => exact ⟨0, Nat.zero_le _, Nat.zero_le _, rfl, ⟨⟨_, 0, m0 gn, [], Nat.le_refl _, Nat.le_refl _, HM4.out, ⟨none, 0, rfl, fun _ => rfl, Nat.le_refl _, fun j hj => absurd hj (Nat.not_lt_zero _)⟩, HR4.out, (fun b hb => by cases hb), HK4.out, Nat.le_refl _, fun y hy => by cases hy⟩, E4.out⟩⟩
  case round =>
    clear HM4 HR4 HK4 E4
    obtain ⟨i, hi, hi150, rfl, hR⟩ := hrel
    obtain ⟨⟨K, n, m, LG, hni, hcl, hmo, hrg, hrw, hkg, hkw, hlg, hgone⟩, hbel⟩ := hR
    have HM := Lib.hid hmo
    have HG := Lib.hid hrg
    have HW := Lib.hid hrw
    have HKG := Lib.hid hkg
    have HKW := Lib.hid hkw
    have HLG := Lib.hid hlg
    have HGO := Lib.hid hgone
    have HBel := Lib.hid hbel
    clear hmo hrg hrw hkg hkw hlg hgone hbel
    by_cases hlt : i < N ∧ i < 150
    · obtain ⟨hlt1, hlt2⟩ := hlt
      obtain ⟨tb, to, rfl, tlt, tt⟩ : ∃ b off, ta = some ⟨b, off, none⟩ ∧ b < w.heap.size ∧ ∀ i, i < N → ∃ x y : Int, w.cell? ⟨b, off + i * 2, none⟩ = some (.int .i64 x) ∧ w.cell? ⟨b, off + i * 2 + 1, none⟩ = some (.int .i64 y) := by
        rcases HT.out with h | ⟨b, off, h1, h2, h3⟩
        · omega
        · exact ⟨b, off, h1, h2, h3⟩
      obtain ⟨G, T, tG, tT⟩ := tt i hlt1
      have cT : wr.cell? ⟨tb, to + i * 2 + 1, none⟩ = some (.int .i64 T) := (HBel.out.cell (p := ⟨tb, to + i * 2 + 1, none⟩) tlt).trans tT
      have q1 : (i : Int) < (N : Int) := by omega
      have q2 : (i : Int) < 150 := by omega
      have q0 : (0 : Int) ≤ (i : Int) := by omega
      obtain ⟨tk, htk⟩ : ∃ k, T.tmod 500 = k := ⟨_, rfl⟩
      have htk1 : tk < 500 ∧ -500 < tk := by
        have h1 := Int.tmod_lt_of_pos T (show (0 : Int) < 500 by omega)
        have h2 := Int.lt_tmod_of_pos T (show (0 : Int) < 500 by omega)
        omega
      have KT := Lib.hid (mo_tick HM.out (by have := HM.out.inv.sl; omega) tk tk.toNat rfl (by omega) (by omega))
      clear tt tT
      go_wp2_with fail
      refine KT.out.mono ?_
      rintro e w5 ⟨⟨u, rfl, -⟩, h5, t5⟩
      have HM5 := Lib.hid h5
      have HG5 := Lib.hid (HG.out.keep t5 HKG.out)
      have HW5 := Lib.hid (HW.out.keep t5 HKW.out)
      have HB5 := Lib.hid (t5.go HBel.out HBW.out)
      have HRT := Lib.hid (rch_tick HM.out.inv tk.toNat)
      have hcl5 : (tickM m tk.toNat).clock ≤ 500 * (i + 1) := by show m.clock + tk.toNat ≤ _; omega
      have HCL5 := Lib.hid hcl5
      have hsl5 : (tickM m tk.toNat).slots = m.slots := rfl
      obtain ⟨m5, hm5⟩ : ∃ m', tickM m tk.toNat = m' := ⟨_, rfl⟩
      rw [hm5] at HM5 HRT HCL5 hsl5
      have HSL := Lib.hid hsl5
      have hg1 := HM5.out.inv.g1
      obtain ⟨gl, hgl⟩ : ∃ k, m5.gs.length = k := ⟨_, rfl⟩
      have hgl2 : gl ≤ 1024 := by rw [← hgl]; exact HM5.out.inv.g1k
      rw [hgl] at hg1
      obtain ⟨gg, hgg⟩ : ∃ k : Nat, (IntKind.u64.wrap G).tmod (gl : Int) = (k : Int) := ⟨((IntKind.u64.wrap G).tmod (gl : Int)).toNat, by have := utmod G (gl : Int) (by omega); omega⟩
      have hgg2 : gg < gl := by have := utmod G (gl : Int) (by omega); omega
      have emax : max (gl : Int) 1 = (gl : Int) := by omega
      have eg1 : IntKind.u64.wrap (gl : Int) = (gl : Int) := by simp [IntKind.wrap, IntKind.bits, IntKind.signed]; omega
      have eg2 : IntKind.i64.wrap (gg : Int) = (gg : Int) := by rw [IntKind.wrap_i64]; omega
      have egz : ((gl : Int) == 0) = false := by simp; omega
      have egn : ¬ gl = 0 := by omega
      have KGs := Lib.hid (fun (V : World) (x : Ex w5 V) => mo_gs (HM5.out.ex x))
      rw [hgl] at KGs
      have KDo := Lib.hid (fun (V : World) (K' : Nat → Prop) (hm : Mo B K' V mb F gn n m5) => mo_any hm (by omega) (g := gg) (by rw [hgl]; exact hgg2))
      have cG : w5.cell? ⟨tb, to + i * 2, none⟩ = some (.int .i64 G) := (HB5.out.cell (p := ⟨tb, to + i * 2, none⟩) tlt).trans tG
      have HHd : Hid (∀ V, Ex w5 V → V.cell? ⟨tb, to + i * 2, none⟩ = some (.int .i64 G)) := Lib.hid (fun V x => (x.cell (p := ⟨tb, to + i * 2, none⟩) (Nat.lt_of_lt_of_le tlt HB5.out.size)).trans cG)
      have HTL : Hid (tb < w.heap.size) := Lib.hid tlt
      have HMT : Hid (∀ (K' : Nat → Prop) V V', w.heap.size ≤ V.heap.size → Mt B K' V V' → V.cell? ⟨tb, to + i * 2, none⟩ = some (.int .i64 G) → V'.cell? ⟨tb, to + i * 2, none⟩ = some (.int .i64 G)) := Lib.hid (fun K' V V' hv t hc => by
        have hb := t.block tb (Nat.lt_of_lt_of_le tlt hv) (fun e => by have := HBW.out; have := e.1; omega)
        rw [World.cell?_of_block (w := V) hb]; exact hc)
      clear h5 t5 KT hm5 hgl HM HG HW HBel cG cT hcl5 hsl5 hcl tG
      go_upto_region 12 with fail
      have HG0 : Hid (w.cell? ⟨tb, to + i * 2, none⟩ = some (.int .i64 G)) := Lib.hid ((HB5.out.cell (p := ⟨tb, to + i * 2, none⟩) tlt).symm.trans (HHd.out w5 (Ex.refl _)))
      obtain ⟨K0, hK0⟩ : ∃ K', K = K' := ⟨_, rfl⟩
      rw [hK0] at HM5 HKG HKW
      clear hK0
      refine wp_region_last (S := fun w' => w'.cell? ⟨tb, to + i * 2, none⟩ = some (.int .i64 G)) 19 20 (by kernel_rfl) (by kernel_rfl) (by kernel_rfl) (HHd.out _ (ex_drw w5)) (fun hHeld => ?_)
      have X0 := Lib.hid (ex_drw w5)
      have HSZ : Hid (w.heap.size ≤ w5.drew.heap.size) := Lib.hid (Nat.le_trans HB5.out.size X0.out.size)
      generalize w5.drew = Y0 at *
      refine heldL_take (i := 0) (v := ?_) rfl (by kernel_rfl) (by kernel_rfl) (by kernel_rfl) (by kernel_rfl) (fun _ _ _ h => h) (Or.inl ⟨by rfl, ?_⟩) (by assumption) ?_
      rotate_left
      · intro w hSw; (try dsimp only at hSw); go_simp; try with_reducible rfl
      try simp only [Act.put, List.setIfInBounds_toArray, List.set_cons_zero, List.set_cons_succ]
      refine heldL_take (i := 1) (v := ?_) rfl (by kernel_rfl) (by kernel_rfl) (by kernel_rfl) (by kernel_rfl) (fun _ _ _ h => h) (Or.inl ⟨by rfl, ?_⟩) (by assumption) ?_
      rotate_left
      · intro w hSw; (try dsimp only at hSw); go_simp; try with_reducible rfl
      try simp only [Act.put, List.setIfInBounds_toArray, List.set_cons_zero, List.set_cons_succ]
      refine heldL_take (i := 2) (v := ?_) rfl (by kernel_rfl) (by kernel_rfl) (by kernel_rfl) (by kernel_rfl) (fun _ _ _ h => h) (Or.inl ⟨by rfl, ?_⟩) (by assumption) ?_
      rotate_left
      · intro w hSw; (try dsimp only at hSw); go_simp; try with_reducible rfl
      try simp only [Act.put, List.setIfInBounds_toArray, List.set_cons_zero, List.set_cons_succ]
      refine heldL_take (i := 3) (v := ?_) rfl (by kernel_rfl) (by kernel_rfl) (by kernel_rfl) (by kernel_rfl) (fun _ _ _ h => h) (Or.inl ⟨by rfl, ?_⟩) (by assumption) ?_
      rotate_left
      · intro w hSw; (try dsimp only at hSw); go_simp; try with_reducible rfl
      try simp only [Act.put, List.setIfInBounds_toArray, List.set_cons_zero, List.set_cons_succ]
      refine heldL_take (i := 4) (v := ?_) rfl (by kernel_rfl) (by kernel_rfl) (by kernel_rfl) (by kernel_rfl) (fun _ _ _ h => h) (Or.inl ⟨by rfl, ?_⟩) (by assumption) ?_
      rotate_left
      · intro w hSw; (try dsimp only at hSw); go_simp; try with_reducible rfl
      try simp only [Act.put, List.setIfInBounds_toArray, List.set_cons_zero, List.set_cons_succ]
      refine heldL_take (i := 5) (v := ?_) rfl (by kernel_rfl) (by kernel_rfl) (by kernel_rfl) (by kernel_rfl) (fun _ _ _ h => h) (Or.inl ⟨by rfl, ?_⟩) (by assumption) ?_
      rotate_left
      · intro w hSw; (try dsimp only at hSw); go_simp; try with_reducible rfl
      try simp only [Act.put, List.setIfInBounds_toArray, List.set_cons_zero, List.set_cons_succ]
      refine heldL_take (i := 6) (v := ?_) rfl (by kernel_rfl) (by kernel_rfl) (by kernel_rfl) (by kernel_rfl) (fun _ _ _ h => h) (Or.inl ⟨by rfl, ?_⟩) (by assumption) ?_
      rotate_left
      · intro w hSw; (try dsimp only at hSw); go_simp; try with_reducible rfl
      try simp only [Act.put, List.setIfInBounds_toArray, List.set_cons_zero, List.set_cons_succ]
      refine heldL_take (i := 7) (v := ?_) rfl (by kernel_rfl) (by kernel_rfl) (by kernel_rfl) (by kernel_rfl) (fun _ _ _ h => h) (Or.inl ⟨by rfl, ?_⟩) (by assumption) ?_
      rotate_left
      · intro w hSw; (try dsimp only at hSw); go_simp; try with_reducible rfl
      try simp only [Act.put, List.setIfInBounds_toArray, List.set_cons_zero, List.set_cons_succ]
      refine heldL_ready (rs := [8, 17]) (by kernel_rfl) (by simp) ?_
      refine AllL.cons rfl (fun K hK => ?ga) (AllL.cons rfl (fun K hK => ?gb) AllL.nil)
      case' ga =>
        go_simp
        go_at_call 26
        refine (KGs.out Y0 X0.out).mono ?_
        rintro e _ ⟨rfl, rfl⟩
        refine hK.out _ _ (fun _ => hHeld) (fun _ => ?_)
        clear hK K
        try simp only [Act.put, List.setIfInBounds_toArray, List.set_cons_zero, List.set_cons_succ]
        refine heldL_take (i := 9) (v := ?_) rfl (by kernel_rfl) (by kernel_rfl) (by kernel_rfl) (by kernel_rfl) (fun _ _ _ h => h) (Or.inl ⟨by rfl, ?_⟩) (by assumption) ?_
        rotate_left
        · intro w hSw; (try dsimp only at hSw); go_simp; try with_reducible rfl
        try simp only [Act.put, List.setIfInBounds_toArray, List.set_cons_zero, List.set_cons_succ]
        refine heldL_take (i := 10) (v := ?_) rfl (by kernel_rfl) (by kernel_rfl) (by kernel_rfl) (by kernel_rfl) (fun _ _ _ h => h) (Or.inl ⟨by rfl, ?_⟩) (by assumption) ?_
        rotate_left
        · intro w hSw; (try dsimp only at hSw); go_simp; try with_reducible rfl
        try simp only [Act.put, List.setIfInBounds_toArray, List.set_cons_zero, List.set_cons_succ]
        refine heldL_take (i := 11) (v := ?_) rfl (by kernel_rfl) (by kernel_rfl) (by kernel_rfl) (by kernel_rfl) (fun _ _ _ h => h) (Or.inl ⟨by rfl, ?_⟩) (by assumption) ?_
        rotate_left
        · intro w hSw; (try dsimp only at hSw); go_simp; try with_reducible rfl
        try simp only [Act.put, List.setIfInBounds_toArray, List.set_cons_zero, List.set_cons_succ]
        refine heldL_take (i := 12) (v := ?_) rfl (by kernel_rfl) (by kernel_rfl) (by kernel_rfl) (by kernel_rfl) (fun _ _ _ h => h) (Or.inl ⟨by rfl, ?_⟩) (by assumption) ?_
        rotate_left
        · intro w hSw; (try dsimp only at hSw); go_simp; try with_reducible rfl
        try simp only [Act.put, List.setIfInBounds_toArray, List.set_cons_zero, List.set_cons_succ]
        refine heldL_ready (rs := [13, 17]) (by kernel_rfl) (by simp) ?_
        refine AllL.cons rfl (fun K hK => ?gc) (AllL.cons rfl (fun K hK => ?gd) AllL.nil)
        case' gc =>
          go_simp
          go_at_call 16
          refine (KDo.out Y0 _ (HM5.out.ex X0.out)).mono ?_
          rintro e Y1 ⟨cg, cf, cpc, cop, cv, cbad, cerr, n', m', rfl, hd1, hd2, hd3, hd4, hd5⟩
          have HD1 := Lib.hid hd1
          have HD2 := Lib.hid hd2
          have HN := Lib.hid hd3
          have HC := Lib.hid hd4
          have HX := Lib.hid hd5
          refine hK.out _ _ (fun _ => HMT.out _ _ _ HSZ.out hd2 hHeld) (fun hHeld => ?_)
          replace hHeld := hHeld (by decide)
          clear hK K hd1 hd2 hd3 hd4 hd5
          try simp only [Act.put, List.setIfInBounds_toArray, List.set_cons_zero, List.set_cons_succ]
          refine heldL_take (i := 14) (v := ?_) rfl (by kernel_rfl) (by kernel_rfl) (by kernel_rfl) (by kernel_rfl) (fun _ _ _ h => h) (Or.inl ⟨by rfl, ?_⟩) (by assumption) ?_
          rotate_left
          · intro w hSw; (try dsimp only at hSw); go_simp; try with_reducible rfl
          try simp only [Act.put, List.setIfInBounds_toArray, List.set_cons_zero, List.set_cons_succ]
          refine heldL_take (i := 15) (v := ?_) rfl (by kernel_rfl) (by kernel_rfl) (by kernel_rfl) (by kernel_rfl) (fun _ _ _ h => h) (Or.inl ⟨by rfl, ?_⟩) (by assumption) ?_
          rotate_left
          · intro w hSw; (try dsimp only at hSw); go_simp; try with_reducible rfl
          try simp only [Act.put, List.setIfInBounds_toArray, List.set_cons_zero, List.set_cons_succ]
          refine heldL_take (i := 16) (v := ?_) rfl (by kernel_rfl) (by kernel_rfl) (by kernel_rfl) (by kernel_rfl) (fun _ _ _ h => h) (Or.inl ⟨by rfl, ?_⟩) (by assumption) ?_
          rotate_left
          · intro w hSw; (try dsimp only at hSw); go_simp; try with_reducible rfl
          try simp only [Act.put, List.setIfInBounds_toArray, List.set_cons_zero, List.set_cons_succ]
          refine heldL_ready (rs := [17]) (by kernel_rfl) (by simp) ?_
          refine AllL.cons rfl (fun K hK => ?_) AllL.nil
          have HSZ1 : Hid (w.heap.size ≤ Y1.heap.size) := Lib.hid (Nat.le_trans HSZ.out HD2.out.size)
          replace HSZ := HSZ1
          go_simp
          have x9 := Ex.made Y1 (.cells #[.int .i64 0, .int .i64 0, .int .i64 0, .int .i64 0, .int .i64 0, .bool false] 34)
          have b9 := Box.fresh Y1 #[.int .i64 0, .int .i64 0, .int .i64 0, .int .i64 0, .int .i64 0, .bool false] 34
          refine hK.out _ _ (fun _ => ((x9.cell (p := ⟨tb, to + i * 2, none⟩) (Nat.lt_of_lt_of_le HTL.out HSZ.out)).trans hHeld)) (fun hHeld => ?_)
          replace hHeld := hHeld (by decide)
          clear hK K
          try simp only [Act.put, List.setIfInBounds_toArray, List.set_cons_zero, List.set_cons_succ]
          obtain ⟨cb, hcb⟩ : ∃ k, Y1.heap.size = k := ⟨_, rfl⟩
          have hcb2 : w.heap.size ≤ cb := by rw [← hcb]; exact HSZ.out
          rw [hcb] at b9 ⊢
          obtain ⟨Y2, hZA⟩ : ∃ Z, Z = Y1.alloc (.cells #[.int .i64 0, .int .i64 0, .int .i64 0, .int .i64 0, .int .i64 0, .bool false] 34) := ⟨_, rfl⟩
          rw [← hZA] at b9 x9 hHeld ⊢
          have HZA := Lib.hid hZA
          clear hZA
          have hcb3 : cb < Y2.heap.size := b9.lt
          refine heldL_ready (rs := [18]) (by kernel_rfl) (by simp) ?_
          refine AllL.cons rfl (fun K hK => ?_) AllL.nil
          refine step_store_cm (g := cg) (f := cf) (pc := cpc) (op := cop) (v := cv) (bad := cbad) rfl rfl 10 69 rfl (by rfl) (by rfl) (b9 : Box _ _ (ccells 0 0 0 0 0 false) _) ?_
          obtain ⟨Z, hZ⟩ : ∃ Z, Z = put6 Y2 cb cg cf cpc cop cv cbad := ⟨_, rfl⟩
          rw [← hZ]
          have HA : Hid (AfterR B w Z K0 mb F gn n' m' cb cg cf cpc cop cv cbad u7 u8 LG (rchL m)) := Lib.hid (by rw [← hcb]; exact AfterR.late HD1.out ((HG5.out.ex X0.out).keep HD2.out HKG.out) ((HW5.out.ex X0.out).keep HD2.out HKW.out) (HD2.out.go (HB5.out.trans X0.out) HBW.out) (by rw [hZ, HZA.out, hcb]))
          have hS2 : Z.cell? ⟨tb, to + i * 2, none⟩ = some (.int .i64 G) := (HA.out.ex.cell (p := ⟨tb, to + i * 2, none⟩) HTL.out).trans HG0.out
          refine hK.out _ _ (fun _ => hS2) (fun hHeld => ?_)
          clear hK hZ
          try simp only [Act.put, List.setIfInBounds_toArray, List.set_cons_zero, List.set_cons_succ]
          refine heldL_ready (rs := [19]) (by kernel_rfl) (by simp) ?_
          refine AllL.cons rfl (fun K hK => ?_) AllL.nil
          go_simp
          refine hK.out _ _ (fun h => (h rfl).elim) (fun _ => ?_)
          clear hK K hS2 hHeld
          try simp only [Act.put, List.setIfInBounds_toArray, List.set_cons_zero, List.set_cons_succ]
          refine heldL_done (by kernel_rfl) ?_ _
        case' gd =>
          go_simp
          have x9 := Ex.made Y0 (.cells #[.int .i64 0, .int .i64 0, .int .i64 0, .int .i64 0, .int .i64 0, .bool false] 34)
          have b9 := Box.fresh Y0 #[.int .i64 0, .int .i64 0, .int .i64 0, .int .i64 0, .int .i64 0, .bool false] 34
          refine hK.out _ _ (fun _ => ((x9.cell (p := ⟨tb, to + i * 2, none⟩) (Nat.lt_of_lt_of_le HTL.out HSZ.out)).trans hHeld)) (fun hHeld => ?_)
          replace hHeld := hHeld (by decide)
          clear hK K
          try simp only [Act.put, List.setIfInBounds_toArray, List.set_cons_zero, List.set_cons_succ]
          obtain ⟨cb, hcb⟩ : ∃ k, Y0.heap.size = k := ⟨_, rfl⟩
          have hcb2 : w.heap.size ≤ cb := by rw [← hcb]; exact HSZ.out
          rw [hcb] at b9 ⊢
          obtain ⟨Y1, hZA⟩ : ∃ Z, Z = Y0.alloc (.cells #[.int .i64 0, .int .i64 0, .int .i64 0, .int .i64 0, .int .i64 0, .bool false] 34) := ⟨_, rfl⟩
          rw [← hZA] at b9 x9 hHeld ⊢
          have HZA := Lib.hid hZA
          clear hZA
          have hcb3 : cb < Y1.heap.size := b9.lt
          have HOW := Lib.hid ((HM5.out.ex X0.out).own x9 (fun i => K0 i ∨ i = cb) (fun i hi => hi.imp id (fun e => by subst e; exact ⟨by omega, hcb3⟩)))
          have HSZ1 : Hid (w.heap.size ≤ Y1.heap.size) := Lib.hid (Nat.le_trans HSZ.out x9.size)
          replace HSZ := HSZ1
          have hkl := Lib.hid ((HM5.out.ex X0.out).kb)
          refine heldL_ready (rs := [13]) (by kernel_rfl) (by simp) ?_
          refine AllL.cons rfl (fun K hK => ?_) AllL.nil
          go_simp
          go_at_call 16
          refine (KDo.out Y1 _ HOW.out).mono ?_
          rintro e Y2 ⟨cg, cf, cpc, cop, cv, cbad, cerr, n', m', rfl, hd1, hd2, hd3, hd4, hd5⟩
          have HD1 := Lib.hid hd1
          have HD2 := Lib.hid hd2
          have HN := Lib.hid hd3
          have HC := Lib.hid hd4
          have HX := Lib.hid hd5
          refine hK.out _ _ (fun _ => HMT.out _ _ _ HSZ.out hd2 hHeld) (fun hHeld => ?_)
          replace hHeld := hHeld (by decide)
          clear hK K hd1 hd2 hd3 hd4 hd5
          try simp only [Act.put, List.setIfInBounds_toArray, List.set_cons_zero, List.set_cons_succ]
          refine heldL_take (i := 14) (v := ?_) rfl (by kernel_rfl) (by kernel_rfl) (by kernel_rfl) (by kernel_rfl) (fun _ _ _ h => h) (Or.inl ⟨by rfl, ?_⟩) (by assumption) ?_
          rotate_left
          · intro w hSw; (try dsimp only at hSw); go_simp; try with_reducible rfl
          try simp only [Act.put, List.setIfInBounds_toArray, List.set_cons_zero, List.set_cons_succ]
          refine heldL_take (i := 15) (v := ?_) rfl (by kernel_rfl) (by kernel_rfl) (by kernel_rfl) (by kernel_rfl) (fun _ _ _ h => h) (Or.inl ⟨by rfl, ?_⟩) (by assumption) ?_
          rotate_left
          · intro w hSw; (try dsimp only at hSw); go_simp; try with_reducible rfl
          try simp only [Act.put, List.setIfInBounds_toArray, List.set_cons_zero, List.set_cons_succ]
          refine heldL_take (i := 16) (v := ?_) rfl (by kernel_rfl) (by kernel_rfl) (by kernel_rfl) (by kernel_rfl) (fun _ _ _ h => h) (Or.inl ⟨by rfl, ?_⟩) (by assumption) ?_
          rotate_left
          · intro w hSw; (try dsimp only at hSw); go_simp; try with_reducible rfl
          try simp only [Act.put, List.setIfInBounds_toArray, List.set_cons_zero, List.set_cons_succ]
          refine heldL_ready (rs := [18]) (by kernel_rfl) (by simp) ?_
          refine AllL.cons rfl (fun K hK => ?_) AllL.nil
          refine step_store_cm (g := cg) (f := cf) (pc := cpc) (op := cop) (v := cv) (bad := cbad) rfl rfl 10 69 rfl (by rfl) (by rfl) (HD2.out.box (b9 : Box _ _ (ccells 0 0 0 0 0 false) _) (.inr (.inr rfl))) ?_
          obtain ⟨Z, hZ⟩ : ∃ Z, Z = put6 Y2 cb cg cf cpc cop cv cbad := ⟨_, rfl⟩
          rw [← hZ]
          have HA : Hid (AfterR B w Z K0 mb F gn n' m' cb cg cf cpc cop cv cbad u7 u8 LG (rchL m)) := Lib.hid (AfterR.early HD1.out (HD2.out.box (b9 : Box _ _ (ccells 0 0 0 0 0 false) _) (.inr (.inr rfl))) (((HG5.out.ex X0.out).ex x9).keep HD2.out (fun b hb => .inl (HKG.out b hb))) (((HW5.out.ex X0.out).ex x9).keep HD2.out (fun b hb => .inl (HKW.out b hb))) (fun e => by have := hkl.out cb (HKG.out cb e); omega) (fun e => by have := hkl.out cb (HKW.out cb e); omega) (HD2.out.go ((HB5.out.trans X0.out).trans x9) HBW.out) hcb2 hZ)
          have hS2 : Z.cell? ⟨tb, to + i * 2, none⟩ = some (.int .i64 G) := (HA.out.ex.cell (p := ⟨tb, to + i * 2, none⟩) HTL.out).trans HG0.out
          refine hK.out _ _ (fun _ => hS2) (fun hHeld => ?_)
          clear hK hZ
          try simp only [Act.put, List.setIfInBounds_toArray, List.set_cons_zero, List.set_cons_succ]
          refine heldL_ready (rs := [19]) (by kernel_rfl) (by simp) ?_
          refine AllL.cons rfl (fun K hK => ?_) AllL.nil
          go_simp
          refine hK.out _ _ (fun h => (h rfl).elim) (fun _ => ?_)
          clear hK K hS2 hHeld
          try simp only [Act.put, List.setIfInBounds_toArray, List.set_cons_zero, List.set_cons_succ]
          refine heldL_done (by kernel_rfl) ?_ _
      case' gb =>
        go_simp
        have x9 := Ex.made Y0 (.cells #[.int .i64 0, .int .i64 0, .int .i64 0, .int .i64 0, .int .i64 0, .bool false] 34)
        have b9 := Box.fresh Y0 #[.int .i64 0, .int .i64 0, .int .i64 0, .int .i64 0, .int .i64 0, .bool false] 34
        refine hK.out _ _ (fun _ => ((x9.cell (p := ⟨tb, to + i * 2, none⟩) (Nat.lt_of_lt_of_le HTL.out HSZ.out)).trans hHeld)) (fun hHeld => ?_)
        replace hHeld := hHeld (by decide)
        clear hK K
        try simp only [Act.put, List.setIfInBounds_toArray, List.set_cons_zero, List.set_cons_succ]
        obtain ⟨cb, hcb⟩ : ∃ k, Y0.heap.size = k := ⟨_, rfl⟩
        have hcb2 : w.heap.size ≤ cb := by rw [← hcb]; exact HSZ.out
        rw [hcb] at b9 ⊢
        obtain ⟨Y1, hZA⟩ : ∃ Z, Z = Y0.alloc (.cells #[.int .i64 0, .int .i64 0, .int .i64 0, .int .i64 0, .int .i64 0, .bool false] 34) := ⟨_, rfl⟩
        rw [← hZA] at b9 x9 hHeld ⊢
        have HZA := Lib.hid hZA
        clear hZA
        have hcb3 : cb < Y1.heap.size := b9.lt
        have HOW := Lib.hid ((HM5.out.ex X0.out).own x9 (fun i => K0 i ∨ i = cb) (fun i hi => hi.imp id (fun e => by subst e; exact ⟨by omega, hcb3⟩)))
        have HSZ1 : Hid (w.heap.size ≤ Y1.heap.size) := Lib.hid (Nat.le_trans HSZ.out x9.size)
        replace HSZ := HSZ1
        have hkl := Lib.hid ((HM5.out.ex X0.out).kb)
        refine heldL_ready (rs := [8]) (by kernel_rfl) (by simp) ?_
        refine AllL.cons rfl (fun K hK => ?_) AllL.nil
        go_simp
        go_at_call 26
        refine (KGs.out Y1 (X0.out.trans x9)).mono ?_
        rintro e _ ⟨rfl, rfl⟩
        refine hK.out _ _ (fun _ => hHeld) (fun _ => ?_)
        clear hK K
        try simp only [Act.put, List.setIfInBounds_toArray, List.set_cons_zero, List.set_cons_succ]
        refine heldL_take (i := 9) (v := ?_) rfl (by kernel_rfl) (by kernel_rfl) (by kernel_rfl) (by kernel_rfl) (fun _ _ _ h => h) (Or.inl ⟨by rfl, ?_⟩) (by assumption) ?_
        rotate_left
        · intro w hSw; (try dsimp only at hSw); go_simp; try with_reducible rfl
        try simp only [Act.put, List.setIfInBounds_toArray, List.set_cons_zero, List.set_cons_succ]
        refine heldL_take (i := 10) (v := ?_) rfl (by kernel_rfl) (by kernel_rfl) (by kernel_rfl) (by kernel_rfl) (fun _ _ _ h => h) (Or.inl ⟨by rfl, ?_⟩) (by assumption) ?_
        rotate_left
        · intro w hSw; (try dsimp only at hSw); go_simp; try with_reducible rfl
        try simp only [Act.put, List.setIfInBounds_toArray, List.set_cons_zero, List.set_cons_succ]
        refine heldL_take (i := 11) (v := ?_) rfl (by kernel_rfl) (by kernel_rfl) (by kernel_rfl) (by kernel_rfl) (fun _ _ _ h => h) (Or.inl ⟨by rfl, ?_⟩) (by assumption) ?_
        rotate_left
        · intro w hSw; (try dsimp only at hSw); go_simp; try with_reducible rfl
        try simp only [Act.put, List.setIfInBounds_toArray, List.set_cons_zero, List.set_cons_succ]
        refine heldL_take (i := 12) (v := ?_) rfl (by kernel_rfl) (by kernel_rfl) (by kernel_rfl) (by kernel_rfl) (fun _ _ _ h => h) (Or.inl ⟨by rfl, ?_⟩) (by assumption) ?_
        rotate_left
        · intro w hSw; (try dsimp only at hSw); go_simp; try with_reducible rfl
        try simp only [Act.put, List.setIfInBounds_toArray, List.set_cons_zero, List.set_cons_succ]
        refine heldL_ready (rs := [13]) (by kernel_rfl) (by simp) ?_
        refine AllL.cons rfl (fun K hK => ?_) AllL.nil
        go_simp
        go_at_call 16
        refine (KDo.out Y1 _ HOW.out).mono ?_
        rintro e Y2 ⟨cg, cf, cpc, cop, cv, cbad, cerr, n', m', rfl, hd1, hd2, hd3, hd4, hd5⟩
        have HD1 := Lib.hid hd1
        have HD2 := Lib.hid hd2
        have HN := Lib.hid hd3
        have HC := Lib.hid hd4
        have HX := Lib.hid hd5
        refine hK.out _ _ (fun _ => HMT.out _ _ _ HSZ.out hd2 hHeld) (fun hHeld => ?_)
        replace hHeld := hHeld (by decide)
        clear hK K hd1 hd2 hd3 hd4 hd5
        try simp only [Act.put, List.setIfInBounds_toArray, List.set_cons_zero, List.set_cons_succ]
        refine heldL_take (i := 14) (v := ?_) rfl (by kernel_rfl) (by kernel_rfl) (by kernel_rfl) (by kernel_rfl) (fun _ _ _ h => h) (Or.inl ⟨by rfl, ?_⟩) (by assumption) ?_
        rotate_left
        · intro w hSw; (try dsimp only at hSw); go_simp; try with_reducible rfl
        try simp only [Act.put, List.setIfInBounds_toArray, List.set_cons_zero, List.set_cons_succ]
        refine heldL_take (i := 15) (v := ?_) rfl (by kernel_rfl) (by kernel_rfl) (by kernel_rfl) (by kernel_rfl) (fun _ _ _ h => h) (Or.inl ⟨by rfl, ?_⟩) (by assumption) ?_
        rotate_left
        · intro w hSw; (try dsimp only at hSw); go_simp; try with_reducible rfl
        try simp only [Act.put, List.setIfInBounds_toArray, List.set_cons_zero, List.set_cons_succ]
        refine heldL_take (i := 16) (v := ?_) rfl (by kernel_rfl) (by kernel_rfl) (by kernel_rfl) (by kernel_rfl) (fun _ _ _ h => h) (Or.inl ⟨by rfl, ?_⟩) (by assumption) ?_
        rotate_left
        · intro w hSw; (try dsimp only at hSw); go_simp; try with_reducible rfl
        try simp only [Act.put, List.setIfInBounds_toArray, List.set_cons_zero, List.set_cons_succ]
        refine heldL_ready (rs := [18]) (by kernel_rfl) (by simp) ?_
        refine AllL.cons rfl (fun K hK => ?_) AllL.nil
        refine step_store_cm (g := cg) (f := cf) (pc := cpc) (op := cop) (v := cv) (bad := cbad) rfl rfl 10 69 rfl (by rfl) (by rfl) (HD2.out.box (b9 : Box _ _ (ccells 0 0 0 0 0 false) _) (.inr (.inr rfl))) ?_
        obtain ⟨Z, hZ⟩ : ∃ Z, Z = put6 Y2 cb cg cf cpc cop cv cbad := ⟨_, rfl⟩
        rw [← hZ]
        have HA : Hid (AfterR B w Z K0 mb F gn n' m' cb cg cf cpc cop cv cbad u7 u8 LG (rchL m)) := Lib.hid (AfterR.early HD1.out (HD2.out.box (b9 : Box _ _ (ccells 0 0 0 0 0 false) _) (.inr (.inr rfl))) (((HG5.out.ex X0.out).ex x9).keep HD2.out (fun b hb => .inl (HKG.out b hb))) (((HW5.out.ex X0.out).ex x9).keep HD2.out (fun b hb => .inl (HKW.out b hb))) (fun e => by have := hkl.out cb (HKG.out cb e); omega) (fun e => by have := hkl.out cb (HKW.out cb e); omega) (HD2.out.go ((HB5.out.trans X0.out).trans x9) HBW.out) hcb2 hZ)
        have hS2 : Z.cell? ⟨tb, to + i * 2, none⟩ = some (.int .i64 G) := (HA.out.ex.cell (p := ⟨tb, to + i * 2, none⟩) HTL.out).trans HG0.out
        refine hK.out _ _ (fun _ => hS2) (fun hHeld => ?_)
        clear hK hZ
        try simp only [Act.put, List.setIfInBounds_toArray, List.set_cons_zero, List.set_cons_succ]
        refine heldL_ready (rs := [19]) (by kernel_rfl) (by simp) ?_
        refine AllL.cons rfl (fun K hK => ?_) AllL.nil
        go_simp
        refine hK.out _ _ (fun h => (h rfl).elim) (fun _ => ?_)
        clear hK K hS2 hHeld
        try simp only [Act.put, List.setIfInBounds_toArray, List.set_cons_zero, List.set_cons_succ]
        refine heldL_done (by kernel_rfl) ?_ _
      all_goals
        clear KGs KDo HHd HMT
        obtain ⟨K', hK', hmo⟩ := HA.out.mo
        have HM6 := Lib.hid hmo
        have HB6 := Lib.hid HA.out.box
        have HG6 := Lib.hid HA.out.rg
        have HW6 := Lib.hid HA.out.rw
        have HE6 := Lib.hid HA.out.ex
        have HKG6 : Hid (∀ b, u7.ownBlock = some b → K' b) := Lib.hid (fun b hb => hK' b (HKG.out b hb))
        have hle : m.slots.length ≤ m'.slots.length := by have := HX.out.le; rw [HSL.out] at this; exact this
        have HOLD : Hid (∀ y, y < m.slots.length → Rch m' y → Rch m y) := Lib.hid (fun y hy r => HRT.out y (HX.out.old y (by rw [HSL.out]; exact hy) r))
        have HNEW : Hid (cerr = 0 → cop = 1 → ∃ id : Nat, cv = (id : Int) ∧ id ∈ rchL m') := Lib.hid HX.out.new
        have HCL : Hid (m'.clock ≤ 500 * (i + 1)) := Lib.hid (by rw [HC.out]; exact HCL5.out)
        have HNN : Hid (n' ≤ i + 1) := Lib.hid (by have := HN.out; omega)
        have HGm : Hid (∀ y ∈ LG, y < m'.slots.length ∧ ¬ Rch m' y) := Lib.hid (fun y hy => ⟨Nat.lt_of_lt_of_le (HGO.out y hy).1 hle, fun r => (HGO.out y hy).2 (HOLD.out y (HGO.out y hy).1 r)⟩)
        have HWm : Hid (∀ y ∈ rchL m, y ∉ rchL m' → y < m'.slots.length ∧ ¬ Rch m' y) := Lib.hid (fun y hy hn => by
          have h1 := Nat.lt_of_lt_of_le (mem_rchL.1 hy).1 hle
          exact ⟨h1, fun r => hn (mem_rchL.2 ⟨h1, r⟩)⟩)
        have HNm : Hid (∀ y ∈ rchL m', Rch m' y) := Lib.hid (fun y hy => (mem_rchL.1 hy).2)
        have HSN : Hid (m'.slots.length ≤ 1 + n') := Lib.hid HM6.out.inv.sn
        have hlw : (rchL m).length ≤ 152 := by have h1 := rchL_len (m := m); have h2 := HSN.out; have h3 := HNN.out; omega
        have hln : (rchL m').length ≤ 152 := by have h1 := rchL_len (m := m'); have h2 := HSN.out; have h3 := HNN.out; omega
        have KR := Lib.hid (mo_reach HM6.out (by have := HNN.out; omega))
        clear hK' hmo HA hle HX HRT HSL HN HC HCL5 HGO HM5 HG5 HW5 HB5 HKW HKG HD1 HD2 tlt hHeld htk htk1 hgg hgg2 emax eg1 eg2 egz egn hg1 hgl2
        obtain ⟨LN, hLN⟩ : ∃ l, rchL m' = l := ⟨_, rfl⟩
        obtain ⟨LW, hLW⟩ : ∃ l, rchL m = l := ⟨_, rfl⟩
        have HLNe := Lib.hid hLN
        rw [hLN] at KR HNEW HWm HNm hln
        rw [hLW] at HW6 HWm hlw
        clear hLN hLW
        go_wp2_with fail
        refine KR.out.mono ?_
        rintro e w7 ⟨v7, rfl, hrow, x7⟩
        have HR7 := Lib.hid (Rn.of hrow)
        have HK7 : Hid (∀ b, v7.ownBlock = some b → Z.heap.size ≤ b ∧ b < w7.heap.size) := Lib.hid (World.ownsRow.lt hrow)
        have HM7 := Lib.hid (HM6.out.own x7 (fun i => K' i ∨ (Z.heap.size ≤ i ∧ i < w7.heap.size)) (fun i hi => hi))
        have HB7 := Lib.hid (HB6.out.ex x7)
        have HG7 := Lib.hid (HG6.out.ex x7)
        have HW7 := Lib.hid (HW6.out.ex x7)
        have HE7 := Lib.hid (HE6.out.trans x7)
        clear hrow x7 HM6 HB6 HG6 HW6 HE6 KR
        obtain ⟨a8, c8, rfl, -, hc8, hr8⟩ := HW7.out
        obtain ⟨a7, c7, rfl, -, hc7, hr7⟩ := HR7.out
        obtain ⟨nw, hnw⟩ : ∃ k, LW.length = k := ⟨_, rfl⟩
        obtain ⟨nn, hnn⟩ : ∃ k, LN.length = k := ⟨_, rfl⟩
        rw [hnw] at hc8 hr8 hlw ⊢
        rw [hnn] at hc7 hr7 hln HR7 HK7 ⊢
        have HC8 := Lib.hid hr8
        have HC7 := Lib.hid hr7
        have HNW := Lib.hid hnw
        have HNNl := Lib.hid hnn
        clear hr8 hr7 HW7 hnw hnn
        go_wp2_with fail
        go_loopw [7, 13] (fun vg kv V => ∃ k : Nat, k ≤ nw ∧ kv = .int .i64 k ∧ GoneR (fun i => K' i ∨ (Z.heap.size ≤ i ∧ i < w7.heap.size)) w7 V vg m' (200 * i + k)) (fun _ kv _ => nw - (intOf kv).toNat)
        case atStart => exact ⟨0, Nat.zero_le _, rfl, Ex.refl _, ⟨LG, HG7.out, HLG.out, HGm.out⟩, fun b hb => .inl (.inl (HKG6.out b hb))⟩
        case round =>
          obtain ⟨k, hk, rfl, hG⟩ := hrel
          have HGK := Lib.hid hG
          clear hG HG7 HKG6 HLG HGm
          obtain ⟨LK, hrk, hlk, hmk⟩ := HGK.out.row
          have HRK := Lib.hid hrk
          have HMK := Lib.hid hmk
          have HLK := Lib.hid hlk
          clear hrk hmk hlk
          by_cases hkn : k < nw
          · obtain ⟨gb, go, rfl, gl8, gc⟩ := HC8.out k hkn
            have hyw : LW.getD k 0 ∈ LW := by
              rw [List.getD_eq_getElem?_getD, List.getElem?_eq_getElem (by rw [HNW.out]; exact hkn)]; exact List.getElem_mem _
            obtain ⟨y, hy⟩ : ∃ y, LW.getD k 0 = y := ⟨_, rfl⟩
            rw [hy] at gc hyw
            have HY := Lib.hid hyw
            have cc := (HGK.out.ex.cell (p := ⟨gb, go + k, none⟩) gl8).trans gc
            have k0 : (0 : Int) ≤ (k : Int) := by omega
            have k1 : (k : Int) < (nw : Int) := by omega
            have KH := Lib.hid (has_any (HR7.out.ex HGK.out.ex) (by rw [HNNl.out]; omega) y)
            have KP := Lib.hid (put_any HRK.out (by have := HLK.out; omega) y)
            obtain ⟨hb, hhb⟩ : ∃ r, LN.contains y = r := ⟨_, rfl⟩
            rw [hhb] at KH
            have HHB := Lib.hid hhb
            clear hy hyw gc hhb
            cases hb
            · go_wp2_with fail
              refine KH.out.mono ?_
              rintro e _ ⟨rfl, rfl⟩
              go_wp2_with fail
              refine KP.out.mono ?_
              rintro e wp ⟨up, LP, rfl, q1, q2, q3, q4, q5⟩
              have HQ1 := Lib.hid q1
              have HQ2 := Lib.hid q2
              have HQ3 := Lib.hid q3
              have HQ4 := Lib.hid q4
              have HQ5 := Lib.hid q5
              clear q1 q2 q3 q4 q5 cc
              go_wp2_with fail
              go_round
              case rel => exact ⟨k + 1, by omega, by go_num, HGK.out.ex.trans HQ5.out, ⟨LP, HQ2.out, by have := HQ4.out; have := HLK.out; omega, fun z hz => by
                rcases (HQ3.out z).1 hz with h | rfl
                · exact HMK.out z h
                · exact HWm.out z HY.out (fun h => by have := HHB.out; rw [List.contains_iff_mem.2 h] at this; cases this)⟩, fun b hb => by
                have hsz := HGK.out.ex.size
                have hsz2 := HQ5.out.size
                rcases HQ1.out with rfl | h
                · rcases HGK.out.own b hb with h | h
                  · exact .inl h
                  · exact .inr ⟨h.1, Nat.lt_of_lt_of_le h.2 hsz2⟩
                · exact .inr ⟨Nat.le_trans hsz (h b hb), rn_lt HQ2.out ((HQ3.out y).2 (.inr rfl)) hb⟩⟩
              case measure => simp [intOf]; omega
            · go_wp2_with fail
              refine KH.out.mono ?_
              rintro e _ ⟨rfl, rfl⟩
              go_wp2_with fail
              go_round
              case rel => exact ⟨k + 1, by omega, by go_num, HGK.out.ex, ⟨LK, HRK.out, by have := HLK.out; omega, HMK.out⟩, HGK.out.own⟩
              case measure => simp [intOf]; omega
          · obtain rfl : k = nw := by omega
            have k1 : ¬ (k : Int) < (k : Int) := by omega
            have HFIN : Hid (ReachR B w wr mb F gn (i + 1) u7 (.slice a7 nn c7)) := Lib.hid ⟨⟨_, n', m', LK, HNN.out, HCL.out, HM7.out.own HGK.out.ex (fun i => (K' i ∨ (Z.heap.size ≤ i ∧ i < w7.heap.size)) ∨ (w7.heap.size ≤ i ∧ i < wr.heap.size)) (fun i hi => hi), HRK.out, by rw [HLNe.out]; exact HR7.out.ex HGK.out.ex, HGK.out.own, fun b hb => .inl (.inr (HK7.out b hb)), by have := HLK.out; omega, HMK.out⟩, HE7.out.trans HGK.out.ex⟩
            have HB9 := Lib.hid (HB7.out.ex HGK.out.ex)
            have HEX := Lib.hid HGK.out.ex
            have HRN := Lib.hid (HR7.out.ex HGK.out.ex)
            clear HGK HM7 HE7 HB7 HR7 HK7 HC8 HWm HNW HCL HLNe
            go_wp2_with fail
            go_loop [14] (fun kv => ∃ j : Nat, j ≤ nn ∧ kv = .int .i64 j) (fun kv => nn - (intOf kv).toNat)
            case atStart => exact ⟨0, Nat.zero_le _, rfl⟩
            case round =>
              obtain ⟨j, hj, rfl⟩ := hrel
              by_cases hjn : j < nn
              · obtain ⟨gb, go, rfl, gl7, gc⟩ := HC7.out j hjn
                have hyn : LN.getD j 0 ∈ LN := by
                  rw [List.getD_eq_getElem?_getD, List.getElem?_eq_getElem (by rw [HNNl.out]; exact hjn)]; exact List.getElem_mem _
                obtain ⟨y, hy⟩ : ∃ y, LN.getD j 0 = y := ⟨_, rfl⟩
                rw [hy] at gc hyn
                have cc := (HEX.out.cell (p := ⟨gb, go + j, none⟩) gl7).trans gc
                have j0 : (0 : Int) ≤ (j : Int) := by omega
                have j1 : (j : Int) < (nn : Int) := by omega
                have hno : LK.contains y = false := by
                  rw [← Bool.not_eq_true, List.contains_iff_mem]
                  exact fun h => (HMK.out y h).2 (HNm.out y hyn)
                have KH := Lib.hid (has_any HRK.out (by have := HLK.out; omega) y)
                rw [hno] at KH
                clear hy hyn gc hno
                go_wp2_with fail
                refine KH.out.mono ?_
                rintro e _ ⟨rfl, rfl⟩
                go_wp2_with fail
                go_round
                case rel => exact ⟨j + 1, by omega, by go_num⟩
                case measure => simp [intOf]; omega
              · obtain rfl : j = nn := by omega
                have j1 : ¬ (j : Int) < (j : Int) := by omega
                have b3 : wr.cell? ⟨cb, 3, none⟩ = some (.int .i64 cop) := HB9.out.cell 3
                have b4 : wr.cell? ⟨cb, 4, none⟩ = some (.int .i64 cv) := HB9.out.cell 4
                by_cases he : cerr = 0
                · have he1 : (cerr == 0) = true := by simp [he]
                  by_cases ho : cop = 1
                  · have ho1 : (cop == 1) = true := by simp [ho]
                    obtain ⟨id, hid, hmem⟩ := HNEW.out he ho
                    have KH := Lib.hid (has_any HRN.out (by rw [HNNl.out]; omega) id)
                    rw [List.contains_iff_mem.2 hmem] at KH
                    rw [hid] at b4
                    clear hid hmem he ho
                    go_wp2_with fail
                    refine KH.out.mono ?_
                    rintro e _ ⟨rfl, rfl⟩
                    go_wp2_with fail
                    go_round
                    case rel => exact ⟨i + 1, by omega, by omega, by go_num, HFIN.out⟩
                    case measure => simp [intOf]; omega
                  · have ho1 : (cop == 1) = false := by simp [ho]
                    clear ho he
                    go_wp2_with fail
                    go_round
                    case rel => exact ⟨i + 1, by omega, by omega, by go_num, HFIN.out⟩
                    case measure => simp [intOf]; omega
                · have he1 : (cerr == 0) = false := by simp [he]
                  clear he
                  go_wp2_with fail
                  go_round
                  case rel => exact ⟨i + 1, by omega, by omega, by go_num, HFIN.out⟩
                  case measure => simp [intOf]; omega
    · have hor : N ≤ i ∨ 150 ≤ i := by omega
      have fin : ∀ V : World, Ex wr V → Ex w V := fun V x => HBel.out.trans x
      have HFin := Lib.hid fin
      clear fin HM HG HW HKG HKW HLG HGO
      by_cases h1 : i < N
      · have q1 : (i : Int) < (N : Int) := by omega
        have q2 : ¬ (i : Int) < 150 := by omega
        go_wp2_with fail
        refine (told_any _).mono ?_
        rintro e w9 ⟨rfl, x9⟩
        have HE := Lib.hid (HFin.out _ x9)
        clear x9
        go_wp2_with fail
        go_ret
        exact ⟨rfl, HE.out⟩
      · have q1 : ¬ (i : Int) < (N : Int) := by omega
        go_wp2_with fail
        refine (told_any _).mono ?_
        rintro e w9 ⟨rfl, x9⟩
        have HE := Lib.hid (HFin.out _ x9)
        clear x9
        go_wp2_with fail
        go_ret
        exact ⟨rfl, HE.out⟩

end Go.Proofs.Ytmlobpapjfkbmaa
