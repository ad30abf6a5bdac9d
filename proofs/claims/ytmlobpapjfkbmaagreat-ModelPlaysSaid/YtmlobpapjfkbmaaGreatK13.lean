/- Part 13 of what is proved of the program of layer 16: Tick16, InvT16, Mo16, Clock16. -/
import Derived.Test.YtmlobpapjfkbmaaGreatK10
import Derived.Test.YtmlobpapjfkbmaaGreatK11
import Derived.Test.YtmlobpapjfkbmaaGreatK12
/- A model's Tick, Clock. -/
namespace Go.Proofs.YtmlobpapjfkbmaaGreat
open Go.RowKit
set_option linter.unusedVariables false
set_option maxRecDepth 20000
set_option linter.unusedSimpArgs false

def wakeL (st : List Nat) (l : List Nat) : List Nat := l.foldl (fun s g => moveS s g 1) st
/-- Who is woken. -/
def wokeM (m : MS) (n : Nat) : List Nat := (T13.dueS ((m.clock + n : Nat) : Int) m.sleep).map (fun p => p.2.1.toNat)
/-- Time goes by. -/
def tickM (m : MS) (n : Nat) : MS := { m with clock := m.clock + n, sleep := T13.leftS ((m.clock + n : Nat) : Int) m.sleep, st := wakeL m.st (wokeM m n) }

theorem wakeL_take (st l : List Nat) (i g : Nat) (hi : i < l.length) (hg : l.getD i 0 = g) : moveS (wakeL st (l.take i)) g 1 = wakeL st (l.take (i + 1)) := by
  have : l.take (i + 1) = l.take i ++ [g] := by
    rw [List.take_add_one, ← hg]; simp [hi]
  rw [this]
  unfold wakeL
  rw [List.foldl_append]; rfl
theorem intsZ_nat : ∀ l : List Int, (∀ x ∈ l, ∃ g : Nat, x = (g : Int)) → T13.intsZ l = S12.ints (l.map Int.toNat)
  | [], _ => rfl
  | x :: l, h => by
    obtain ⟨g, hg⟩ := h x (List.mem_cons_self ..)
    subst hg
    have := intsZ_nat l (fun y hy => h y (List.mem_cons_of_mem _ hy))
    show Value.int .i64 (g : Int) :: T13.intsZ l = Value.int .i64 (((g : Int).toNat : Nat) : Int) :: S12.ints (l.map Int.toNat)
    rw [this, Int.toNat_natCast]

theorem MdR.next {w w1 w2 : World} {A A' : Adr} {t t' : Nat → Tg} {mb : Nat} {F : Fns} {m2 : MS} (h3 : ∀ i, i < w.heap.size → t' i = t i) (h4 : A'.pb = A.pb) (h5 : Chg (fun i => (t i).1 ≠ 0) w w1) (k : MdR w1 A' t' mb F m2 w2) : MdR w A t mb F m2 w2 := by
  obtain ⟨A2, t2, k1, k2, k3, k4, k5⟩ := k
  exact ⟨A2, t2, k1, k2, fun i hi => (k3 i (Nat.lt_of_lt_of_le hi h5.size)).trans (h3 i hi), k4.trans h4, h5.trans k5 (fun i hi hf => by rw [h3 i hi] at hf; exact hf)⟩

theorem row_low {w : World} {B B' n : Nat} {e : TypeId} {v : Value} {xs : List Value} (h : w.ownsRow B e 1 v n xs) (hB : B' ≤ B) : w.ownsRow B' e 1 v n xs := by
  obtain ⟨h1, h2 | ⟨g, cap, cs, e, h3, h4⟩⟩ := h
  · exact ⟨h1, .inl h2⟩
  · exact ⟨h1, .inr ⟨g, cap, cs, e, Nat.le_trans hB h3, h4⟩⟩
/-- What Tick leaves. -/
def TickR (w : World) (A : Adr) (t : Nat → Tg) (mb : Nat) (F : Fns) (m : MS) (n : Nat) (e : Ending) (w' : World) : Prop :=
  ∃ u, e = .returned u ∧ w'.ownsRow w.heap.size 3 1 u (wokeM m n).length (S12.ints (wokeM m n)) ∧ MdR w A t mb F (tickM m n) w'

set_option maxHeartbeats 6400000 in
theorem tick_any {w : World} {A : Adr} {t : Nat → Tg} {mb : Nat} {F : Fns} {m : MS} (h : Md w A t mb F m) (nw : New w t) (hs : m.sleep.length < 900) (hsl : ∀ p ∈ m.sleep, ∃ g : Nat, p.2.1 = (g : Int)) (hc : m.clock ≤ 1000000000) (n : Int) (k : Nat) (hn : n ≤ 1000000000) (hk : n.toNat = k) :
    Calls Tryz.prog 10 #[.pointer (some ⟨mb, 0, none⟩), .int .i64 n] w (TickR w A t mb F m k) := by
  have c7 : w.cell? ⟨mb, 8, none⟩ = some (.int .i64 (m.clock : Nat)) := h.box.box.cell 8
  have f7 := h.box.box.soft 8
  have e1 : IntKind.i64.wrap ((m.clock : Int) + max n 0) = ((m.clock + k : Nat) : Int) := by rw [IntKind.wrap_i64]; omega
  have hl : (wokeM m k).length ≤ 900 := by
    unfold wokeM T13.dueS
    rw [List.length_map]
    have := List.length_filter_le (fun p : T13.T3 => decide (p.1 ≤ ((m.clock + k : Nat) : Int))) m.sleep
    omega
  obtain ⟨W1, hW1⟩ : ∃ W1, W1 = w.setCell ⟨mb, 8, none⟩ (.int .i64 ((m.clock + k : Nat) : Int)) := ⟨_, rfl⟩
  have k1 : Chg (fun i => i = mb) w W1 := hW1 ▸ Chg.cell (F := fun i => i = mb) w ⟨mb, 8, none⟩ _ rfl
  have b1 : Box W1 mb (mcells A (m.clock + k)) 70 := by rw [hW1]; exact h.box.box.put 8 (.int .i64 ((m.clock + k : Nat) : Int))
  have h1 : Md W1 A t mb F { m with clock := m.clock + k } := h.tick (P := fun i => i = mb) (m.clock + k) b1 k1 (by rintro i rfl; left; rw [h.box.tag]; simp)
  have n1 : New W1 t := nw.le k1.size
  have c7' : W1.cell? ⟨mb, 8, none⟩ = some (.int .i64 ((m.clock + k : Nat) : Int)) := b1.cell 8
  have c6' : W1.cell? ⟨mb, 6, none⟩ = some (.pointer (some ⟨A.tb, 0, none⟩)) := b1.cell 6
  obtain ⟨D, hD⟩ : ∃ D, T13.dueS ((m.clock + k : Nat) : Int) m.sleep = D := ⟨_, rfl⟩
  have KD : Hid (∀ W2, Ex W1 W2 → Calls Tryz.prog 25 #[.pointer (some ⟨A.tb, 0, none⟩), .int .i64 ((m.clock + k : Nat) : Int)] W2 fun e w' => ∃ u, e = .returned u ∧ w'.ownsRow W2.heap.size 3 1 u (wokeM m k).length (S12.ints (wokeM m k)) ∧ Md w' A t mb F { m with clock := m.clock + k, sleep := T13.leftS ((m.clock + k : Nat) : Int) m.sleep } ∧ New w' t ∧ Chg (fun i => (t i).1 ≠ 0) W2 w') := Lib.hid (fun W2 x => by
    have hx := h1.exs x
    have nx := n1.le x.size
    refine (T13.ts_due hx.tm hs ((m.clock + k : Nat) : Int)).mono ?_
    rintro e w' ⟨u, rfl, r1, r2, r3⟩
    have hz : ∀ y ∈ (T13.dueS ((m.clock + k : Nat) : Int) m.sleep).map (fun p => p.2.1), ∃ g : Nat, y = (g : Int) := by
      intro y hy
      obtain ⟨p, hp, rfl⟩ := List.mem_map.1 hy
      exact hsl p (List.mem_filter.1 hp).1
    have ez : ((T13.dueS ((m.clock + k : Nat) : Int) m.sleep).map (fun p => p.2.1)).map Int.toNat = wokeM m k := by unfold wokeM; rw [List.map_map]; rfl
    have hrow : w'.ownsRow W2.heap.size 3 1 u (wokeM m k).length (S12.ints (wokeM m k)) := by
      unfold T13.TRow at r1
      rw [intsZ_nat _ hz, ez] at r1
      have el : ((T13.dueS ((m.clock + k : Nat) : Int) m.sleep).map (fun p => p.2.1)).length = (wokeM m k).length := by rw [← ez, List.length_map, List.length_map, List.length_map]
      rw [el] at r1
      exact r1
    refine ⟨u, rfl, hrow, hx.timers (P := T13.Ob A.tb A.tr) A.tr m.k (T13.leftS ((m.clock + k : Nat) : Int) m.sleep) r2 h.tmt.2 r3 ?_, nx.le r3.size, r3.weak ?_⟩
    · rintro i (rfl | hi)
      · left; rw [hx.tmt.1]; simp
      · left; rw [hx.tmt.2 i hi]; simp
    · rintro i - (rfl | hi)
      · rw [hx.tmt.1]; simp
      · rw [hx.tmt.2 i hi]; simp)
  have HW1 := Lib.hid hW1
  have HK1 := Lib.hid k1
  have HN1 := Lib.hid n1
  have HLn := Lib.hid hl
  have HA : Hid (Md w A t mb F m) := Lib.hid h
  have HSB : Hid (∀ W2, Ex W1 W2 → W2.cell? ⟨mb, 8, none⟩ = some (.int .i64 ((m.clock + k : Nat) : Int)) ∧ W2.cell? ⟨mb, 6, none⟩ = some (.pointer (some ⟨A.tb, 0, none⟩))) := Lib.hid (fun W2 x => ⟨(b1.ex x).cell 8, (b1.ex x).cell 6⟩)
  obtain ⟨cc, hcc⟩ : ∃ cc, m.clock + k = cc := ⟨_, rfl⟩
  rw [hcc] at KD HSB HW1 e1
  have HCC := Lib.hid hcc
  clear h1 n1 b1 k1 hD h nw c7' c6' hcc hW1
  go_enter Tryz.func10, Tryz.ntmps10
  go_upto_region 4 with fail
  rw [← HW1.out]
  have c8 := (HSB.out _ (Ex.refl _)).1
  have c6 := (HSB.out _ (Ex.refl _)).2
  obtain ⟨q8, q6⟩ := HSB.out _ (ex_drw W1)
  obtain ⟨l, hl2⟩ : ∃ l, wokeM m k = l := ⟨_, rfl⟩
  rw [hl2] at KD
  have HL := Lib.hid hl2
  obtain ⟨ll, hll⟩ : ∃ k, l.length = k := ⟨_, rfl⟩
  have hl9 := HLn.out
  rw [HL.out, hll] at hl9
  rw [hll] at KD
  have HLL := Lib.hid hll
  go_region_with (go_at_call 25; refine (KD.out _ (ex_drw W1)).mono ?_; rintro e w2 ⟨u, rfl, hrow, hmd, hnew, hchg⟩; obtain ⟨ua, uc, rfl⟩ := T13.row_val hrow; have HD1 := Lib.hid hmd; have HD2 := Lib.hid hnew; have HD3 := Lib.hid hchg; have HR := Lib.hid hrow; clear hmd hnew hchg hrow)
  all_goals
    have HN3 : Hid (∀ b, (Value.slice ua ll uc).ownBlock = some b → (t b).1 = 0) := Lib.hid (fun b hb => by
      rcases row_shape HR.out with ⟨h1, -⟩ | ⟨g, cap, h1, h2, -⟩
      · rw [h1] at hb; cases hb
      · rw [h1] at hb; cases hb; exact HN1.out g (by have := (ex_drw W1).size; omega))
    clear KD c8 c6 q8 q6 hl2 hll
    go_wp2_with fail
    go_loopw [31] (fun i W2 => ∃ j : Nat, j ≤ ll ∧ i = .int .i64 j ∧ MdR w2 A t mb F { m with clock := cc, sleep := T13.leftS (cc : Int) m.sleep, st := wakeL m.st (l.take j) } W2) (fun i _ => ll - (intOf i).toNat)
    case atStart => exact ⟨0, Nat.zero_le _, rfl, mdr_ex HD1.out HD2.out (Ex.refl _)⟩
    case round =>
      obtain ⟨j, hj, rfl, hmr⟩ := hrel
      obtain ⟨A', t', M1, M2, M3, M4, M5⟩ := id hmr
      have HM1 := Lib.hid M1
      have HM2 := Lib.hid M2
      have R2 := row_chg HR.out M5 (fun b hb e => e (HN3.out b hb))
      have HM3 := Lib.hid M3
      have HM4 := Lib.hid M4
      have HM5 := Lib.hid M5
      clear hmr M3 M4 M5
      by_cases hlt : j < ll
      · obtain ⟨g, hg⟩ : ∃ g, l.getD j 0 = g := ⟨_, rfl⟩
        rcases row_shape R2 with ⟨h1, h2, h3⟩ | ⟨ab, cap, hav, h2, h3, h4, h5⟩
        · omega
        injection hav with e1 _ e2
        subst e1; subst e2
        have ca : wr.cell? ⟨ab, j, none⟩ = some (.int .i64 (g : Nat)) := by
          have hjl : j < l.length := by rw [HLL.out]; exact hlt
          rw [R2.cellAt j (by omega), ← hg]
          simp [S12.ints, hjl]
        have c2 : wr.cell? ⟨mb, 2, none⟩ = some (.pointer (some ⟨A'.sb, 0, none⟩)) := M1.box.box.cell 2
        have KM := Lib.hid (move_at M1 M2 g 1)
        have hw := Lib.hid (wakeL_take m.st l j g (by rw [HLL.out]; exact hlt) hg)
        rw [show ((1 : Nat) : Int) = 1 from rfl] at KM
        clear M1 M2 R2 hg h3 h5
        go_wp2_with fail
        refine KM.out.mono ?_
        rintro e w3 ⟨⟨r, rfl⟩, v', t2, N1, N2, N3, N4, N5⟩
        unfold MS.mv at N1
        dsimp only at N1
        rw [hw.out] at N1
        have HF : Hid (MdR w2 A t mb F { m with clock := cc, sleep := T13.leftS (cc : Int) m.sleep, st := wakeL m.st (l.take (j + 1)) } w3) := Lib.hid (MdR.next HM3.out HM4.out HM5.out ⟨_, t2, N1, N2, N3, rfl, N4⟩)
        clear N1 N2 N3 N4 N5
        go_wp2
        go_roundw
        case rel => exact ⟨j + 1, by omega, by go_num, HF.out⟩
        case measure => simp [intOf]; omega
      · obtain rfl : j = ll := by omega
        have e3 : ¬ ((j : Int) < (j : Int)) := by omega
        clear M1 M2
        go_wp2_with fail
        have HF : Hid (MdR w A t mb F (tickM m k) wr) := Lib.hid (by
          rw [show l.take j = l by rw [← HLL.out, List.take_length]] at HM1
          unfold tickM
          rw [HCC.out, HL.out]
          have c1 : Chg (fun i => (t i).1 ≠ 0) w W1 := HK1.out.weak (fun i _ hi => by rw [hi, HA.out.box.tag]; simp)
          have c2 := c1.trans (((ex_drw W1).chg (fun i => (t i).1 ≠ 0)).trans HD3.out (fun _ _ h => h)) (fun _ _ h => h)
          exact MdR.next (fun _ _ => rfl) rfl c2 (MdR.next HM3.out HM4.out HM5.out ⟨A', t', HM1.out, HM2.out, fun _ _ => rfl, rfl, Chg.refl _ _⟩))
        have HRow : Hid (wr.ownsRow w.heap.size 3 1 (.slice ua j uc) (wokeM m k).length (S12.ints (wokeM m k))) := Lib.hid (by
          rw [HL.out, HLL.out]
          exact row_low R2 (Nat.le_trans HK1.out.size (ex_drw W1).size))
        clear R2 HM1 HM2 HM3 HM4 HM5
        go_ret
        exact ⟨_, rfl, HRow.out, HF.out⟩

end Go.Proofs.YtmlobpapjfkbmaaGreat

/- What time keeps: plain. -/
namespace Go.Proofs.YtmlobpapjfkbmaaGreat
set_option linter.unusedVariables false
set_option maxRecDepth 20000
set_option linter.unusedSimpArgs false

theorem wake_one {st : List Nat} {g : Nat} (hg : g < st.length) (h3 : st.getD g 0 = 3) : moveS st g 1 = st.set g 1 := by
  unfold moveS; rw [h3]; rfl
theorem wakeL_at : ∀ (D : List Nat) (st : List Nat), D.Nodup → (∀ g ∈ D, g < st.length ∧ st.getD g 0 = 3) → (wakeL st D).length = st.length ∧ ∀ i, (wakeL st D).getD i 0 = if i ∈ D then 1 else st.getD i 0
  | [], st, _, _ => ⟨rfl, fun i => by simp [wakeL]⟩
  | g :: D, st, nd, h => by
    obtain ⟨h1, h2⟩ := h g (List.mem_cons_self ..)
    rw [List.nodup_cons] at nd
    have e : wakeL st (g :: D) = wakeL (st.set g 1) D := by
      show wakeL (moveS st g 1) D = _
      rw [wake_one h1 h2]
    obtain ⟨k1, k2⟩ := wakeL_at D (st.set g 1) nd.2 (fun i hi => by
      obtain ⟨q1, q2⟩ := h i (List.mem_cons_of_mem _ hi)
      refine ⟨by rw [List.length_set]; exact q1, ?_⟩
      have hne : i ≠ g := fun e => nd.1 (e ▸ hi)
      rw [getD_set _ _ _ _ h1, if_neg hne]; exact q2)
    rw [e]
    refine ⟨by rw [k1, List.length_set], fun i => ?_⟩
    rw [k2 i, getD_set _ _ _ _ h1]
    by_cases e1 : i ∈ D
    · rw [if_pos e1, if_pos (List.mem_cons_of_mem _ e1)]
    · rw [if_neg e1]
      by_cases e2 : i = g
      · rw [if_pos e2, if_pos (by rw [e2]; exact List.mem_cons_self ..)]
      · rw [if_neg e2, if_neg (fun hm => by rcases List.mem_cons.1 hm with h | h; exact e2 h; exact e1 h)]

theorem due_left (now : Int) : ∀ S : List T13.T3, (T13.dueS now S ++ T13.leftS now S).Perm S
  | [] => List.Perm.refl _
  | p :: S => by
    have ih := due_left now S
    unfold T13.dueS T13.leftS at ih ⊢
    by_cases h : p.1 ≤ now
    · rw [List.filter_cons_of_pos (by simpa using h), List.filter_cons_of_neg (by simp; omega)]
      exact ih.cons p
    · rw [List.filter_cons_of_neg (by simpa using h), List.filter_cons_of_pos (by simp; omega)]
      exact List.perm_middle.trans (ih.cons p)

theorem SInv.tick {st : List Nat} {S : List T13.T3} {W : List (List Nat)} (h : SInv st S W) (now : Int) :
    SInv (wakeL st ((T13.dueS now S).map (fun p => p.2.1.toNat))) (T13.leftS now S) W ∧ (wakeL st ((T13.dueS now S).map (fun p => p.2.1.toNat))).length = st.length ∧
    (∀ i, (wakeL st ((T13.dueS now S).map (fun p => p.2.1.toNat))).getD i 0 = if i ∈ (T13.dueS now S).map (fun p => p.2.1.toNat) then 1 else st.getD i 0) ∧ (∀ i ∈ (T13.dueS now S).map (fun p => p.2.1.toNat), i < st.length ∧ st.getD i 0 = 3) := by
  have pm : ((T13.dueS now S).map (fun p => p.2.1.toNat) ++ ((T13.leftS now S).map (fun p => p.2.1.toNat) ++ W.flatten)).Perm (S.map (fun p => p.2.1.toNat) ++ W.flatten) := by
    rw [← List.append_assoc, ← List.map_append]
    exact ((due_left now S).map _).append_right _
  have nd := pm.nodup_iff.2 h.nd
  rw [List.nodup_append] at nd
  obtain ⟨n1, n2, n3⟩ := nd
  have hm : ∀ i ∈ (T13.dueS now S).map (fun p => p.2.1.toNat), i < st.length ∧ st.getD i 0 = 3 := fun i hi => h.mem i (pm.mem_iff.1 (List.mem_append_left _ hi))
  obtain ⟨k1, k2⟩ := wakeL_at _ st n1 hm
  refine ⟨⟨fun g hg => ?_, fun p hp => h.slp p (List.mem_filter.1 hp).1, n2, fun g hg => ?_⟩, k1, k2, hm⟩
  · rw [k2 g]
    split
    · left; rfl
    · exact h.sts g (by rw [← k1]; exact hg)
  · have hg2 := h.mem g (pm.mem_iff.1 (List.mem_append_right _ hg))
    rw [k1, k2 g, if_neg (fun hd => n3 g hd g hg rfl)]
    exact hg2

theorem inv_tick {F : Fns} {gn n : Nat} {m : MS} (h : Inv F gn n m) (k : Nat) : Inv F gn n (tickM m k) := by
  obtain ⟨s1, s2, s3, s4⟩ := h.s.tick ((m.clock + k : Nat) : Int)
  refine ⟨s2.trans h.st, h.g1, h.gsn, h.g1k, h.stk, h.cnt, h.fn, fun g hg => ⟨(h.pc g hg).1, fun hne => (h.pc g hg).2 fun h5 => hne ?_⟩, h.s0, h.nil0, h.sn, h.on, h.slv, h.tot, h.gl, h.glv, ?_, h.k, h.wl, h.wt, s1⟩
  · show (wakeL m.st (wokeM m k)).getD g 0 = 5
    unfold wokeM
    rw [s3 g, if_neg (fun hm => by have := (s4 g hm).2; omega)]
    exact h5
  · exact Nat.le_trans (List.length_filter_le ..) h.sl

end Go.Proofs.YtmlobpapjfkbmaaGreat

/- A model beside a law's own blocks. -/
namespace Go.Proofs.YtmlobpapjfkbmaaGreat
open Go.RowKit
set_option linter.unusedVariables false
set_option maxRecDepth 20000
set_option linter.unusedSimpArgs false

/-- The model mb, made when the heap had B blocks; the blocks K are others'. -/
structure Mo (B : Nat) (K : Nat → Prop) (w : World) (mb : Nat) (F : Fns) (gn n : Nat) (m : MS) : Prop where
  md : ∃ A t, Md w A t mb F m ∧ New w t ∧ A.pb ≤ B ∧ (∀ i, i < B → (t i).1 = 0) ∧ (∀ i, K i → (t i).1 = 0)
  inv : Inv F gn n m
  may : C15.mayI gn F = 0
  bs : B ≤ w.heap.size
  kb : ∀ i, K i → i < w.heap.size
  kl : ∀ i, K i → B ≤ i
  cl : m.clock ≤ 1000000
/-- What a call on a model may turn. -/
def Mt (B : Nat) (K : Nat → Prop) (w w' : World) : Prop := Chg (fun i => B ≤ i ∧ ¬ K i) w w'

section
variable {B : Nat} {K : Nat → Prop} {w w' : World} {mb : Nat} {F : Fns} {gn n : Nat} {m : MS}
theorem Mo.ex (h : Mo B K w mb F gn n m) (x : Ex w w') : Mo B K w' mb F gn n m := by
  obtain ⟨⟨A, t, h1, h2, h3, h4, h5⟩, k1, k2, k3, k4, k5, k6⟩ := h
  exact ⟨⟨A, t, h1.exs x, h2.le x.size, h3, h4, h5⟩, k1, k2, Nat.le_trans k3 x.size, fun i hi => Nat.lt_of_lt_of_le (k4 i hi) x.size, k5, k6⟩
/-- Blocks that came are one's own. -/
theorem Mo.own (h : Mo B K w mb F gn n m) (x : Ex w w') (K' : Nat → Prop) (hK : ∀ i, K' i → K i ∨ (w.heap.size ≤ i ∧ i < w'.heap.size)) : Mo B K' w' mb F gn n m := by
  obtain ⟨⟨A, t, h1, h2, h3, h4, h5⟩, k1, k2, k3, k4, k5, k6⟩ := h
  refine ⟨⟨A, t, h1.exs x, h2.le x.size, h3, h4, fun i hi => ?_⟩, k1, k2, Nat.le_trans k3 x.size, fun i hi => ?_, fun i hi => ?_, k6⟩
  · rcases hK i hi with h | h
    · exact h5 i h
    · exact h2 i h.1
  · rcases hK i hi with h | h
    · exact Nat.lt_of_lt_of_le (k4 i h) x.size
    · exact h.2
  · rcases hK i hi with h | h
    · exact k5 i h
    · exact Nat.le_trans k3 h.1
/-- One's own blocks are turned. -/
theorem Mo.mine (h : Mo B K w mb F gn n m) (x : Chg K w w') : Mo B K w' mb F gn n m := by
  obtain ⟨⟨A, t, h1, h2, h3, h4, h5⟩, k1, k2, k3, k4, k5, k6⟩ := h
  exact ⟨⟨A, t, h1.ex x (fun i hi => .inr ⟨h5 i hi, Nat.le_trans h3 (k5 i hi)⟩), h2.le x.size, h3, h4, h5⟩, k1, k2, Nat.le_trans k3 x.size, fun i hi => Nat.lt_of_lt_of_le (k4 i hi) x.size, k5, k6⟩
theorem Mo.next (h : Mo B K w mb F gn n m) {m' : MS} {n' : Nat} (k : ∀ A t, Md w A t mb F m → New w t → A.pb ≤ w.heap.size → MdR w A t mb F m' w') (i : Inv F gn n' m') (hc : m'.clock ≤ 1000000) : Mo B K w' mb F gn n' m' ∧ Mt B K w w' := by
  obtain ⟨⟨A, t, h1, h2, h3, h4, h5⟩, k1, k2, k3, k4, k5, k6⟩ := h
  obtain ⟨A', t', q1, q2, q3, q4, q5⟩ := k A t h1 h2 (Nat.le_trans h3 k3)
  refine ⟨⟨⟨A', t', q1, q2, by rw [q4]; exact h3, fun j hj => ?_, fun j hj => ?_⟩, i, k2, Nat.le_trans k3 q5.size, fun j hj => Nat.lt_of_lt_of_le (k4 j hj) q5.size, k5, hc⟩, q5.weak (fun j _ hj => ⟨?_, fun hk => hj (h5 j hk)⟩)⟩
  · rw [q3 j (by omega)]; exact h4 j hj
  · rw [q3 j (k4 j hj)]; exact h5 j hj
  · rcases Nat.lt_or_ge j B with hl | hl
    · exact absurd (h4 j hl) hj
    · exact hl
theorem Mt.ex (x : Ex w w') : Mt B K w w' := x.chg _
theorem Mt.box (h : Mt B K w w') {b : Nat} {cs : Array Value} {ty : TypeId} (hb : Box w b cs ty) (hk : b < B ∨ K b) : Box w' b cs ty :=
  hb.chg h (fun e => by rcases hk with h | h; omega; exact e.2 h)
theorem Mt.row (h : Mt B K w w') {B0 N : Nat} {v : Value} {e : TypeId} {xs : List Value} (hr : w.ownsRow B0 e 1 v N xs) (hk : ∀ b, v.ownBlock = some b → b < B ∨ K b) : w'.ownsRow B0 e 1 v N xs :=
  row_chg hr h (fun b hb e => by rcases hk b hb with h | h; omega; exact e.2 h)
theorem Mt.le (h : Mt B K w w') {B' : Nat} (hB : B' ≤ B) : Below B' w w' → True := fun _ => trivial
end

theorem new_mo {w w' : World} {pb mb gn : Nat} {F : Fns} (h : NewM pb w mb gn F w') (hp : pb ≤ w.heap.size) (hm : C15.mayI gn F = 0) (hi : Inv F gn 0 (m0 gn)) : Mo w.heap.size (fun _ => False) w' mb F gn 0 (m0 gn) ∧ Ex w w' := by
  obtain ⟨A, t, h1, h2, h3, h4, h5⟩ := h
  exact ⟨⟨⟨A, t, h1, h2, by omega, fun i hi => by rw [h4 i hi], fun i hi => hi.elim⟩, hi, hm, h5.size, fun i hi => hi.elim, fun i hi => hi.elim, Nat.zero_le _⟩, h5⟩

theorem inv_m0 {F : Fns} {gn : Nat} (h : 1 ≤ F.length) : Inv F gn 0 (m0 gn) := by
  have hw : ∀ i, ((List.replicate 32 ([] : List Nat)).getD i []) = [] := fun i => by
    rw [List.getD_eq_getElem?_getD, List.getElem?_replicate]; split <;> rfl
  have hs : ∀ i, (([[]] : List (List Nat)).getD i []) = [] := fun i => by
    cases i with
    | zero => rfl
    | succ i => rfl
  have one : ∀ g, g < (m0 gn).gs.length → g = 0 := fun g hg => by
    have : g < 1 := hg
    omega
  refine ⟨rfl, (by decide : 1 ≤ 1), (by decide : 1 ≤ 1 + 0), (by decide : 1 ≤ 1024), fun g hg => ?_, fun g hg => ?_, fun g hg => ?_, fun g hg => ?_, (by decide : 0 < 1), rfl, (by decide : 1 ≤ 1 + 0), fun i => ?_, fun i x hx => ?_, (by decide : 0 ≤ 256 * 0), ?_, fun x hx => ?_, Nat.le_refl _, Nat.le_refl _, ?_, fun i => ?_, ?_⟩
  · obtain rfl := one g hg
    refine ⟨rfl, fun a => ?_⟩
    show (0 :: List.replicate 15 0).getD a 0 < 1
    have : (0 :: List.replicate 15 0).getD a 0 = 0 := by
      show (List.replicate 16 0).getD a 0 = 0
      rw [List.getD_eq_getElem?_getD, List.getElem?_replicate]; split <;> rfl
    omega
  · obtain rfl := one g hg; exact (by decide : 0 ≤ 65535)
  · obtain rfl := one g hg; exact h
  · obtain rfl := one g hg; exact ⟨(by decide : 0 ≤ 65), fun _ => (by decide : 0 ≤ 64)⟩
  · show (([[]] : List (List Nat)).getD i []).length ≤ 256
    rw [hs i]; decide
  · have hx : x ∈ (([[]] : List (List Nat)).getD i []) := hx
    rw [hs i] at hx; cases hx
  · show (List.replicate gn 0).length = gn
    simp
  · have hx : x ∈ List.replicate gn 0 := hx
    obtain ⟨-, rfl⟩ := List.mem_replicate.1 hx
    exact (by decide : 0 < 1)
  · show (List.replicate 32 ([] : List Nat)).length = 32
    simp
  · show ((List.replicate 32 ([] : List Nat)).getD i []).length ≤ 0
    rw [hw i]; decide
  · refine ⟨fun g hg => ?_, fun p hp => (by cases hp), ?_, fun g hg => ?_⟩
    · have : g < 1 := hg
      obtain rfl : g = 0 := by omega
      left; rfl
    · show (List.replicate 32 ([] : List Nat)).flatten.Nodup
      decide
    · have hg : g ∈ ([] : List Nat) := hg
      cases hg

theorem opM_clock (m : MS) (g op a b c : Nat) : (opM m g op a b c).clock = m.clock := by
  unfold opM; dsimp only
  split <;> first | rfl | (split <;> rfl)
theorem stepM_clock (F : Fns) (m : MS) (g : Nat) : (stepM F m g).clock = m.clock := opM_clock ..

section
variable {B : Nat} {K : Nat → Prop} {w : World} {mb : Nat} {F : Fns} {gn n : Nat} {m : MS}
theorem Inv.wf2 (h : Inv F gn n m) (hg : gn ≤ 32) (hn : n ≤ 90000) (hs : m.sleep.length < 900) (hc : m.clock ≤ 1000000000) : Wf m :=
  ⟨h.st, h.stk, h.s0, by have := h.sn; omega, fun i => by have := h.on i; omega, by have := h.gl; omega, hs, by have := h.k; omega, hc, fun i => by have := h.wt i; omega, fun g hg => by have := h.cnt g hg; omega⟩
theorem mo_do (h : Mo B K w mb F gn n m) (hn : n ≤ 90000) (hs : m.sleep.length < 900) {g : Nat} (hg : g < m.gs.length) (h1 : m.st.getD g 0 = 1) :
    Calls Tryz.prog 12 #[.pointer (some ⟨mb, 0, none⟩), .int .i64 (g : Nat)] w fun e w' => e = .returned (.tuple #[cmV (tells F m g), .int .i64 0]) ∧ Mo B K w' mb F gn (n + 1) (stepM F m g) ∧ Mt B K w w' := by
  obtain ⟨A, t, q1, q2, q3, q4, q5⟩ := h.md
  have W := h.inv.wf2 (may_gn h.may) hn hs (by have := h.cl; omega)
  have hp : A.pb ≤ w.heap.size := Nat.le_trans q3 h.bs
  refine (do_go q1 q2 hp h.may h.inv W hg h1).mono ?_
  rintro e w' ⟨rfl, hr⟩
  obtain ⟨A', t', p1, p2, p3, p4, p5⟩ := hr
  refine ⟨rfl, ⟨⟨A', t', p1, p2, by rw [p4]; exact q3, fun j hj => ?_, fun j hj => ?_⟩, (step_is h.inv h.may hg h1).2.2, h.may, Nat.le_trans h.bs p5.size, fun j hj => Nat.lt_of_lt_of_le (h.kb j hj) p5.size, h.kl, by rw [stepM_clock]; exact h.cl⟩, p5.weak (fun j _ hj => ⟨?_, fun hk => hj (q5 j hk)⟩)⟩
  · rw [p3 j (Nat.lt_of_lt_of_le hj h.bs)]; exact q4 j hj
  · rw [p3 j (h.kb j hj)]; exact q5 j hj
  · rcases Nat.lt_or_ge j B with hl | hl
    · exact absurd (q4 j hl) hj
    · exact hl
theorem mo_cant (h : Mo B K w mb F gn n m) {g : Nat} (hg : g < m.gs.length) (h1 : m.st.getD g 0 ≠ 1) :
    Calls Tryz.prog 12 #[.pointer (some ⟨mb, 0, none⟩), .int .i64 (g : Nat)] w fun e w' => e = .returned (.tuple #[noCm, .int .i64 5]) ∧ Ex w w' := by
  obtain ⟨A, t, q1, -⟩ := h.md
  exact do_cant q1 h.inv hg h1
theorem mo_nobody (h : Mo B K w mb F gn n m) {g : Int} (hg : g < 0 ∨ (m.gs.length : Int) ≤ g) :
    Calls Tryz.prog 12 #[.pointer (some ⟨mb, 0, none⟩), .int .i64 g] w fun e w' => e = .returned (.tuple #[noCm, .int .i64 4]) ∧ Ex w w' := by
  obtain ⟨A, t, q1, -⟩ := h.md
  exact do_nobody q1 h.inv hg
theorem mo_state (h : Mo B K w mb F gn n m) (g s : Nat) (hs : m.st.getD g 0 = s) :
    Calls Tryz.prog 18 #[.pointer (some ⟨mb, 0, none⟩), .int .i64 (g : Nat)] w fun e w' => e = .returned (.int .i64 (s : Nat)) ∧ w = w' := by
  obtain ⟨A, t, q1, -⟩ := h.md
  exact state_any q1 g s ((sta_is h.inv g).trans hs)
theorem mo_gs (h : Mo B K w mb F gn n m) :
    Calls Tryz.prog 35 #[.pointer (some ⟨mb, 0, none⟩)] w fun e w' => e = .returned (.int .i64 (m.gs.length : Nat)) ∧ w = w' := by
  obtain ⟨A, t, q1, -⟩ := h.md
  exact gs_any q1
theorem mo_ids (h : Mo B K w mb F gn n m) (hn : n ≤ 90000) :
    Calls Tryz.prog 16 #[.pointer (some ⟨mb, 0, none⟩)] w fun e w' => e = .returned (.int .i64 ((m.slots.length - 1 : Nat) : Int)) ∧ w = w' := by
  obtain ⟨A, t, q1, -⟩ := h.md
  exact ids_any q1 h.inv.s0 (by have := h.inv.sn; omega)
theorem mo_globals (h : Mo B K w mb F gn n m) :
    Calls Tryz.prog 39 #[.pointer (some ⟨mb, 0, none⟩)] w (RowOut w m.globals) := by
  obtain ⟨A, t, q1, -⟩ := h.md
  exact globals_any q1 (by have := h.inv.gl; have := may_gn h.may; omega)
theorem mo_slots (h : Mo B K w mb F gn n m) (hn : n ≤ 90000) (id : Nat) (h1 : 1 ≤ id) (hid : id < m.slots.length) :
    Calls Tryz.prog 41 #[.pointer (some ⟨mb, 0, none⟩), .int .i64 (id : Nat)] w (RowOut w (m.slots.getD id [])) := by
  obtain ⟨A, t, q1, -⟩ := h.md
  exact slots_in q1 (by have := h.inv.sn; omega) (fun i => by have := h.inv.on i; omega) id h1 hid
theorem mo_noslots (h : Mo B K w mb F gn n m) (id : Int) (ho : id < 1 ∨ (1 ≤ id ∧ (m.slots.length : Int) ≤ id)) :
    Calls Tryz.prog 41 #[.pointer (some ⟨mb, 0, none⟩), .int .i64 id] w fun e w' => e = .returned (.slice none 0 0) ∧ w = w' := by
  obtain ⟨A, t, q1, -⟩ := h.md
  exact slots_out q1 id ho
theorem mo_nostack (h : Mo B K w mb F gn n m) (g : Int) (ho : g < 0 ∨ (0 ≤ g ∧ (m.gs.length : Int) ≤ g)) :
    Calls Tryz.prog 40 #[.pointer (some ⟨mb, 0, none⟩), .int .i64 g] w fun e w' => e = .returned (.slice none 0 0) ∧ w = w' := by
  obtain ⟨A, t, q1, -⟩ := h.md
  exact stack_out q1 g ho
theorem mo_stuck (h : Mo B K w mb F gn n m) (hn : n ≤ 90000) :
    Calls Tryz.prog 37 #[.pointer (some ⟨mb, 0, none⟩)] w fun e w' => e = .returned (.bool (stuckM m)) ∧ w = w' := by
  obtain ⟨A, t, q1, -⟩ := h.md
  exact stuck_any q1 (fun i => by have := h.inv.wt i; omega)
theorem mo_reach (h : Mo B K w mb F gn n m) (hn : n ≤ 800) :
    Calls Tryz.prog 17 #[.pointer (some ⟨mb, 0, none⟩)] w (RowOut w (rchL m)) := by
  obtain ⟨A, t, q1, -⟩ := h.md
  have W := h.inv.wf2 (may_gn h.may) (by omega) (by have := h.inv.sl; omega) (by have := h.cl; omega)
  exact reach_any q1 W ⟨h.inv.glv, h.inv.slv, by have := h.inv.tot; omega⟩ h.inv.g1k
theorem mo_tick (h : Mo B K w mb F gn n m) (hs : m.sleep.length < 900) (k : Int) (j : Nat) (hj : k.toNat = j) (hk : k ≤ 1000000000) (hc : m.clock + j ≤ 1000000) :
    Calls Tryz.prog 10 #[.pointer (some ⟨mb, 0, none⟩), .int .i64 k] w fun e w' => (∃ u, e = .returned u ∧ w'.ownsRow w.heap.size 3 1 u (wokeM m j).length (S12.ints (wokeM m j))) ∧ Mo B K w' mb F gn n (tickM m j) ∧ Mt B K w w' := by
  obtain ⟨A, t, q1, q2, q3, q4, q5⟩ := h.md
  refine (tick_any q1 q2 hs h.inv.s.slp (by have := h.cl; omega) k j hk hj).mono ?_
  rintro e w' ⟨u, rfl, hr, A', t', p1, p2, p3, p4, p5⟩
  refine ⟨⟨u, rfl, hr⟩, ⟨⟨A', t', p1, p2, by rw [p4]; exact q3, fun j hj => ?_, fun j hj => ?_⟩, inv_tick h.inv j, h.may, Nat.le_trans h.bs p5.size, fun j hj => Nat.lt_of_lt_of_le (h.kb j hj) p5.size, h.kl, hc⟩, p5.weak (fun j _ hj => ⟨?_, fun hk => hj (q5 j hk)⟩)⟩
  · rw [p3 j (Nat.lt_of_lt_of_le hj h.bs)]; exact q4 j hj
  · rw [p3 j (h.kb j hj)]; exact q5 j hj
  · rcases Nat.lt_or_ge j B with hl | hl
    · exact absurd (q4 j hl) hj
    · exact hl
end

end Go.Proofs.YtmlobpapjfkbmaaGreat

/- A model's Clock. -/
namespace Go.Proofs.YtmlobpapjfkbmaaGreat
open Go.RowKit
set_option linter.unusedVariables false
set_option maxRecDepth 20000

theorem clock_any {w : World} {A : Adr} {t : Nat → Tg} {mb : Nat} {F : Fns} {m : MS} (h : Md w A t mb F m) :
    Calls Tryz.prog 36 #[.pointer (some ⟨mb, 0, none⟩)] w fun e w' => e = .returned (.int .i64 (m.clock : Nat)) ∧ w = w' := by
  have c8 : w.cell? ⟨mb, 8, none⟩ = some (.int .i64 (m.clock : Nat)) := h.box.box.cell 8
  clear h
  go_enter Tryz.func36, Tryz.ntmps36
  go_wp2_with fail
  go_ret
  exact ⟨rfl, rfl⟩

end Go.Proofs.YtmlobpapjfkbmaaGreat

