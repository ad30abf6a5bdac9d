/- Package code: the reader's inst. -/
import Derived.Test.YtmajnjbjoagihaaNext15
namespace Go.Proofs.Ytmajnjbjoagihaa
open Go.RowKit
set_option linter.unusedVariables false
set_option linter.unusedSimpArgs false

theorem Bs.chg {F : Nat → Prop} {w w' : World} {bs : List Int} {g o n cap : Nat} (h : Bs w (.slice (some ⟨g, o, none⟩) n cap) bs) (x : Chg F w w') (hF : ¬ F g) : Bs w' (.slice (some ⟨g, o, none⟩) n cap) bs := by
  refine ⟨h.len, h.ok, ?_⟩
  rcases h.is with h1 | ⟨g', o', cap', h1, h2, h3, h4⟩
  · exact .inl h1
  · have e := h1
    simp only [Value.slice.injEq, Option.some.injEq, Addr.mk.injEq] at e
    obtain ⟨⟨rfl, rfl, -⟩, rfl, rfl⟩ := e
    refine .inr ⟨g, o, cap, h1, Nat.lt_of_lt_of_le h2 x.size, h3, fun i hi => ?_⟩
    have hb := x.block g h2 hF
    have := h4 i hi
    simp only [World.cell?, hb] at this ⊢
    exact this

def byt (bs : List Int) (i : Nat) : Int := bs.getD i 0
/-- What has been read of an instruction, k parts behind its Op. -/
def instAt (bs : List Int) (a k : Nat) : I4 := (byt bs a, if 1 ≤ k then byt bs (a + 1) else 0, if 2 ≤ k then byt bs (a + 2) else 0, if 3 ≤ k then byt bs (a + 3) else 0)
def instF (g n s : Int) (bs : List Int) (a : Nat) : Nat → Nat → Except Nat I4
  | 0, _ => .ok (instAt bs a 3)
  | f + 1, k => if bs.length ≤ a + k then .error bs.length else
      if 0 ≤ wrongI g n s (instAt bs a k) ∧ wrongI g n s (instAt bs a k) ≤ k then .error (a + (wrongI g n s (instAt bs a k)).toNat) else instF g n s bs a f (k + 1)
/-- An instruction, or the place of the first byte that is wrong. -/
def instD (g n s : Int) (bs : List Int) (a : Nat) : Except Nat I4 := instF g n s bs a 4 0

theorem instF_end {g n s : Int} {bs : List Int} {a f k : Nat} (h : bs.length ≤ a + k) : instF g n s bs a (f + 1) k = .error bs.length := by
  rw [instF, if_pos h]
theorem instF_bad {g n s : Int} {bs : List Int} {a f k : Nat} {r : Int} (h : ¬ bs.length ≤ a + k) (hr : wrongI g n s (instAt bs a k) = r) (h1 : 0 ≤ r ∧ r ≤ k) : instF g n s bs a (f + 1) k = .error (a + r.toNat) := by
  rw [instF, if_neg h, hr, if_pos h1]
theorem instF_go {g n s : Int} {bs : List Int} {a f k : Nat} {r : Int} (h : ¬ bs.length ≤ a + k) (hr : wrongI g n s (instAt bs a k) = r) (h1 : ¬ (0 ≤ r ∧ r ≤ k)) : instF g n s bs a (f + 1) k = instF g n s bs a f (k + 1) := by
  rw [instF, if_neg h, hr, if_neg h1]

/-- The cells of the four numbers, k read. -/
def vCells (bs : List Int) (a k : Nat) : Array Value := #[.int .i64 (if 0 < k then byt bs a else 0), .int .i64 (if 1 < k then byt bs (a + 1) else 0), .int .i64 (if 2 < k then byt bs (a + 2) else 0), .int .i64 (if 3 < k then byt bs (a + 3) else 0)]

def instV (x : I4) : Value := .agg #[.int .i64 x.1, .int .i64 x.2.1, .int .i64 x.2.2.1, .int .i64 x.2.2.2]

def InstDone (w : World) (rb : Nat) (v : Value) (a : Nat) (r : Except Nat I4) (e : Ending) (w' : World) : Prop :=
  match r with
  | .error p => e = thrown p ∧ Chg (fun i => i = rb) w w'
  | .ok x => e = .returned (instV x) ∧ Box w' rb #[v, .int .i64 ((a : Int) + 4)] 52 ∧ Chg (fun i => i = rb) w w'

set_option maxRecDepth 20000 in
set_option maxHeartbeats 6400000 in
theorem inst_any {w : World} {rb : Nat} {v : Value} {bs : List Int} {g n s : Int} (a : Nat) (h : Bs w v bs) (hr : Box w rb #[v, .int .i64 (a : Int)] 52) (hv : ∀ g, v.ownBlock = some g → g ≠ rb) (hb : a ≤ 200000) (hf : FB3 g n s) :
    Calls Try.prog 20 #[.pointer (some ⟨rb, 0, none⟩), .agg #[.int .i64 g, .int .i64 n, .int .i64 s]] w (InstDone w rb v a (instD g n s bs a)) := by
  obtain ⟨va, cap, rfl⟩ := h.val
  have HBs := Lib.hid h
  have HR := Lib.hid hr
  have HF := Lib.hid hf
  have HV := Lib.hid hv
  have L := h.len
  have c1 : w.cell? ⟨rb, 1, none⟩ = some (.int .i64 (a : Int)) := hr.cell 1
  have rl := hr.lt
  clear h hr hf hv
  go_enter Try.func20, Try.ntmps20
  have e0 : Ex w (((w.alloc (.cells #[.int .i64 g, .int .i64 n, .int .i64 s] 55)).alloc (.cells #[.int .i64 0, .int .i64 0, .int .i64 0, .int .i64 0] 45)).alloc (.cells #[.int .i64 0, .int .i64 0, .int .i64 0, .int .i64 0] 60)) := ((Ex.made _ _).trans (Ex.made _ _)).trans (Ex.made _ _)
  have b1 : Box (((w.alloc (.cells #[.int .i64 g, .int .i64 n, .int .i64 s] 55)).alloc (.cells #[.int .i64 0, .int .i64 0, .int .i64 0, .int .i64 0] 45)).alloc (.cells #[.int .i64 0, .int .i64 0, .int .i64 0, .int .i64 0] 60)) w.heap.size #[.int .i64 g, .int .i64 n, .int .i64 s] 55 := ((Box.fresh w _ _).ex (Ex.made _ _)).ex (Ex.made _ _)
  have b2 : Box (((w.alloc (.cells #[.int .i64 g, .int .i64 n, .int .i64 s] 55)).alloc (.cells #[.int .i64 0, .int .i64 0, .int .i64 0, .int .i64 0] 45)).alloc (.cells #[.int .i64 0, .int .i64 0, .int .i64 0, .int .i64 0] 60)) (w.heap.size + 1) #[.int .i64 0, .int .i64 0, .int .i64 0, .int .i64 0] 45 := by
    have := (Box.fresh (w.alloc (.cells #[.int .i64 g, .int .i64 n, .int .i64 s] 55)) #[.int .i64 0, .int .i64 0, .int .i64 0, .int .i64 0] 45).ex (Ex.made _ (.cells #[.int .i64 0, .int .i64 0, .int .i64 0, .int .i64 0] 60))
    simpa using this
  have b3 : Box (((w.alloc (.cells #[.int .i64 g, .int .i64 n, .int .i64 s] 55)).alloc (.cells #[.int .i64 0, .int .i64 0, .int .i64 0, .int .i64 0] 45)).alloc (.cells #[.int .i64 0, .int .i64 0, .int .i64 0, .int .i64 0] 60)) (w.heap.size + 1 + 1) (vCells bs a 0) 60 := by
    have := Box.fresh ((w.alloc (.cells #[.int .i64 g, .int .i64 n, .int .i64 s] 55)).alloc (.cells #[.int .i64 0, .int .i64 0, .int .i64 0, .int .i64 0] 45)) #[.int .i64 0, .int .i64 0, .int .i64 0, .int .i64 0] 60
    simpa [vCells] using this
  go_upto_region 3 with fail
  obtain ⟨V, hV⟩ : ∃ V, V = (((w.alloc (.cells #[.int .i64 g, .int .i64 n, .int .i64 s] 55)).alloc (.cells #[.int .i64 0, .int .i64 0, .int .i64 0, .int .i64 0] 45)).alloc (.cells #[.int .i64 0, .int .i64 0, .int .i64 0, .int .i64 0] 60)) := ⟨_, rfl⟩
  rw [← hV] at e0 b1 b2 b3 ⊢
  have E0 := Lib.hid e0
  have B1 := Lib.hid b1
  have B2 := Lib.hid b2
  have B3 := Lib.hid b3
  clear e0 b1 b2 b3 hV c1
  go_wp2_with fail
  go_loopw [14] (fun iv wr => ∃ k q : Nat, k ≤ 4 ∧ q = a + k ∧ iv = .int .i64 k ∧ Box wr w.heap.size #[.int .i64 g, .int .i64 n, .int .i64 s] 55 ∧ Box wr (w.heap.size + 1) #[.int .i64 0, .int .i64 0, .int .i64 0, .int .i64 0] 45 ∧ Box wr (w.heap.size + 1 + 1) (vCells bs a k) 60 ∧
    Box wr rb #[.slice va bs.length cap, .int .i64 (q : Int)] 52 ∧ Chg (fun i => i = rb) w wr ∧ Bs wr (.slice va bs.length cap) bs ∧ instF g n s bs a (4 - k) k = instD g n s bs a) (fun iv _ => 4 - (intOf iv).toNat)
  case atStart => exact ⟨0, a, by omega, rfl, rfl, B1.out, B2.out, B3.out, HR.out.ex E0.out, E0.out.chg _, HBs.out.ex E0.out, rfl⟩
  case round =>
    obtain ⟨k, q, hk, hq, rfl, hb1, hb2, hb3, hb4, hc, hbs, hi⟩ := hrel
    have D1 := Lib.hid hb1
    have D2 := Lib.hid hb2
    have D3 := Lib.hid hb3
    have D4 := Lib.hid hb4
    have DC := Lib.hid hc
    have DB := Lib.hid hbs
    have DI := Lib.hid hi
    have HQ := Lib.hid hq
    have r0 : wr.cell? ⟨rb, 0, none⟩ = some (.slice va bs.length cap) := hb4.cell 0
    have r1 : wr.cell? ⟨rb, 1, none⟩ = some (.int .i64 (q : Int)) := hb4.cell 1
    have rf := hb4.soft 1
    have hq2 : q ≤ 200004 := by omega
    have hwz : w.heap.size ≤ wr.heap.size := hc.size
    clear hb1 hb2 hb3 hb4 hc hbs hi B1 B2 B3 E0 hq
    by_cases hlt : k < 4
    · have hlt' : (k : Int) < 4 := by omega
      by_cases he : bs.length ≤ q
      · have t1 : decide (bs.length ≤ q) = true := by simp; omega
        have HE := Lib.hid he
        clear he
        go_wp2_with fail
        go_quiet (fail)
        go_wp2_with fail
        refine ⟨rfl, ?_⟩
        have hd := DI.out
        obtain ⟨f, hf⟩ : ∃ f, 4 - k = f + 1 := ⟨3 - k, by omega⟩
        rw [hf, instF_end (by rw [← HQ.out]; exact HE.out)] at hd
        rw [← hd]
        exact ⟨rfl, DC.out.ex (Ex.drawn _ _)⟩
      · have t1 : decide (bs.length ≤ q) = false := by simp; omega
        obtain ⟨gb, ob, rfl, -, hcap, hc, x1, x2⟩ := DB.out.at q (by omega)
        obtain ⟨x, hx⟩ : ∃ x, bs.getD q 0 = x := ⟨_, rfl⟩
        rw [hx] at hc x1 x2
        have HX := Lib.hid hx
        have HE := Lib.hid he
        have q1 : (q : Int) < (bs.length : Int) := by omega
        have q2 : (0 : Int) ≤ (q : Int) := by omega
        have q3 : (bs.length : Int) ≤ (cap : Int) := by omega
        have gr : gb ≠ rb := HV.out gb rfl
        have gl : gb < w.heap.size := HBs.out.gl (by omega)
        clear hx he
        rcases (by omega : k = 0 ∨ k = 1 ∨ k = 2 ∨ k = 3) with hk0 | hk1 | hk2 | hk3
        · subst hk0
          rw [show ((0 : Nat) : Int) = 0 from rfl]
          go_wp2_with fail
          go_quiet (fail)
          go_wp2_with fail
          refine wp_region_still_tail 13 (by kernel_rfl) (by kernel_rfl) ?_
          simp only [List.take_succ_cons, List.take_zero, List.drop_succ_cons, List.drop_zero]
          rw [show ({ wr.drewN nq with drawn := (wr.drewN nq).drawn + 1 } : World) = (wr.drewN nq).drew from rfl]
          have X2 : Ex wr (wr.drewN nq).drew := (Ex.drawn _ _).trans (ex_drew _)
          have F1 := Lib.hid (D1.out.ex X2)
          have F2 := Lib.hid (D2.out.ex X2)
          have F3 := Lib.hid (D3.out.ex X2)
          have F4 := Lib.hid (D4.out.ex X2)
          have FC := Lib.hid (DC.out.ex X2)
          have FB := Lib.hid (DB.out.ex X2)
          replace hc := cell_later X2 hc
          replace r0 := cell_later X2 r0
          replace r1 := cell_later X2 r1
          replace rf := F4.out.soft 1
          have v0 : (wr.drewN nq).drew.cell? ⟨w.heap.size + 1 + 1, 0, none⟩ = some (.int .i64 0) := F3.out.cell 0
          have vf := F3.out.soft 0
          clear X2 D1 D2 D3 D4 DC DB hwz
          generalize (wr.drewN nq).drew = W at *
          repeat still_step
          refine wpStill_nil ?_
          go_upto_region 10 with fail
          have G3 : Hid (Box ((W.setCell ⟨w.heap.size + 1 + 1, 0, none⟩ (.int .i64 x)).setCell ⟨rb, 1, none⟩ (.int .i64 ((q : Int) + 1))) (w.heap.size + 1 + 1) (vCells bs a 1) 60) := Lib.hid (by
            have := (F3.out.put 0 (.int .i64 x)).put_other (b := rb) (by omega) 1 (.int .i64 ((q : Int) + 1))
            have hxa : byt bs a = x := by
              have e := HQ.out
              subst e
              exact HX.out
            simpa [vCells, hxa] using this)
          have G1 := Lib.hid ((F1.out.put_other (b := w.heap.size + 1 + 1) (by omega) 0 (.int .i64 x)).put_other (b := rb) (by omega) 1 (.int .i64 ((q : Int) + 1)))
          have G2 := Lib.hid ((F2.out.put_other (b := w.heap.size + 1 + 1) (by omega) 0 (.int .i64 x)).put_other (b := rb) (by omega) 1 (.int .i64 ((q : Int) + 1)))
          have G4 := Lib.hid ((F4.out.put_other (b := w.heap.size + 1 + 1) (by omega) 0 (.int .i64 x)).put 1 (.int .i64 ((q : Int) + 1)))
          have cs : Chg (fun i => i = rb ∨ i = w.heap.size + 1 + 1) W ((W.setCell ⟨w.heap.size + 1 + 1, 0, none⟩ (.int .i64 x)).setCell ⟨rb, 1, none⟩ (.int .i64 ((q : Int) + 1))) :=
            (Chg.cell (F := fun i => i = rb ∨ i = w.heap.size + 1 + 1) W ⟨w.heap.size + 1 + 1, 0, none⟩ _ (.inr rfl)).trans (Chg.cell (F := fun i => i = rb ∨ i = w.heap.size + 1 + 1) _ ⟨rb, 1, none⟩ _ (.inl rfl)) (fun _ _ h => h)
          have GC : Hid (Chg (fun i => i = rb) w ((W.setCell ⟨w.heap.size + 1 + 1, 0, none⟩ (.int .i64 x)).setCell ⟨rb, 1, none⟩ (.int .i64 ((q : Int) + 1)))) := Lib.hid (FC.out.trans cs (fun i hi h => by rcases h with h | h; exact h; omega))
          have GB := Lib.hid (FB.out.chg cs (by rintro (h | h); exact gr h; omega))
          clear cs F1 F2 F3 F4 FC FB hc r0 r1 rf v0 vf
          obtain ⟨Y, hY⟩ : ∃ Y, Y = (W.setCell ⟨w.heap.size + 1 + 1, 0, none⟩ (.int .i64 x)).setCell ⟨rb, 1, none⟩ (.int .i64 ((q : Int) + 1)) := ⟨_, rfl⟩
          rw [← hY] at G1 G2 G3 G4 GC GB ⊢
          clear hY
          have hxa : byt bs a = x := by
            have e := HQ.out
            subst e
            exact HX.out
          have hat : instAt bs a 0 = (x, 0, 0, 0) := by simp [instAt, hxa]
          have y0 : Y.cell? ⟨w.heap.size + 1 + 1, 0, none⟩ = some (.int .i64 x) := by
            rw [G3.out.cell 0]
            simp [vCells, hxa]
          have y1 : Y.cell? ⟨w.heap.size + 1 + 1, 1, none⟩ = some (.int .i64 0) := by
            rw [G3.out.cell 1]
            simp [vCells, hxa]
          have y2 : Y.cell? ⟨w.heap.size + 1 + 1, 2, none⟩ = some (.int .i64 0) := by
            rw [G3.out.cell 2]
            simp [vCells, hxa]
          have y3 : Y.cell? ⟨w.heap.size + 1 + 1, 3, none⟩ = some (.int .i64 0) := by
            rw [G3.out.cell 3]
            simp [vCells, hxa]
          have KW : Hid (∀ U, Calls Try.prog 23 #[.agg #[.int .i64 g, .int .i64 n, .int .i64 s], .agg #[.int .i64 x, .int .i64 0, .int .i64 0, .int .i64 0]] U fun e w' => e = .returned (.int .i64 (wrongI g n s (x, 0, 0, 0))) ∧ Ex U w') := Lib.hid (fun U => wrong_any U (x, 0, 0, 0) HF.out)
          obtain ⟨r, hr⟩ : ∃ r, wrongI g n s (x, 0, 0, 0) = r := ⟨_, rfl⟩
          rw [hr] at KW
          have HRR : Hid (wrongI g n s (instAt bs a 0) = r) := Lib.hid (by rw [hat]; exact hr)
          have z0 : Y.cell? ⟨w.heap.size, 0, none⟩ = some (.int .i64 g) := G1.out.cell 0
          have z1 : Y.cell? ⟨w.heap.size, 1, none⟩ = some (.int .i64 n) := G1.out.cell 1
          have z2 : Y.cell? ⟨w.heap.size, 2, none⟩ = some (.int .i64 s) := G1.out.cell 2
          have zl := G1.out.lt
          clear hr hat hxa HX
          by_cases hrr : 0 ≤ r ∧ r ≤ 0
          · obtain ⟨r1, r2⟩ := hrr
            have HP : Hid (thrown (a + r.toNat) = .panicked [{ v := .iface 48 (.agg #[.int .i64 ((a : Int) + r)]), recovered := false }]) := Lib.hid (by unfold thrown badV; rw [show ((a + r.toNat : Nat) : Int) = (a : Int) + r by omega])
            go_wp2_with fail
            refine (KW.out _).mono ?_
            rintro e w5 ⟨rfl, h5⟩
            have X5 := Lib.hid ((Ex.made Y _).trans h5)
            clear h5 z0 z1 z2 y0 y1 y2 y3
            go_wp2_with fail
            refine ⟨rfl, ?_⟩
            have hd := DI.out
            rw [show 4 - 0 = 3 + 1 from rfl, instF_bad (by have := HQ.out; have := HE.out; omega) HRR.out ⟨r1, r2⟩] at hd
            rw [← hd]
            exact ⟨HP.out.symm, GC.out.ex X5.out⟩
          · have HNR := Lib.hid hrr
            have hcs : r < 0 ∨ (0 ≤ r ∧ 0 < r) := by omega
            clear hrr
            rcases hcs with hs | ⟨hs, hs2⟩
            all_goals
              go_wp2_with fail
              refine (KW.out _).mono ?_
              rintro e w5 ⟨rfl, h5⟩
              have X5 := Lib.hid ((Ex.made Y _).trans h5)
              clear h5 z0 z1 z2 y0 y1 y2 y3
              go_wp2_with fail
              go_roundw
              case rel =>
                refine ⟨1, q + 1, by omega, by have := HQ.out; omega, by go_num, G1.out.ex X5.out, G2.out.ex X5.out, G3.out.ex X5.out, ?_, GC.out.ex X5.out, GB.out.ex X5.out, ?_⟩
                · have := G4.out.ex X5.out
                  rw [show ((q + 1 : Nat) : Int) = (q : Int) + 1 by omega]
                  exact this
                · have hd := DI.out
                  rw [show 4 - 0 = 3 + 1 from rfl, instF_go (by have := HQ.out; have := HE.out; omega) HRR.out HNR.out] at hd
                  exact hd
              case measure => simp [intOf]
        · subst hk1
          rw [show ((1 : Nat) : Int) = 1 from rfl]
          go_wp2_with fail
          go_quiet (fail)
          go_wp2_with fail
          refine wp_region_still_tail 13 (by kernel_rfl) (by kernel_rfl) ?_
          simp only [List.take_succ_cons, List.take_zero, List.drop_succ_cons, List.drop_zero]
          rw [show ({ wr.drewN nq with drawn := (wr.drewN nq).drawn + 1 } : World) = (wr.drewN nq).drew from rfl]
          have X2 : Ex wr (wr.drewN nq).drew := (Ex.drawn _ _).trans (ex_drew _)
          have F1 := Lib.hid (D1.out.ex X2)
          have F2 := Lib.hid (D2.out.ex X2)
          have F3 := Lib.hid (D3.out.ex X2)
          have F4 := Lib.hid (D4.out.ex X2)
          have FC := Lib.hid (DC.out.ex X2)
          have FB := Lib.hid (DB.out.ex X2)
          replace hc := cell_later X2 hc
          replace r0 := cell_later X2 r0
          replace r1 := cell_later X2 r1
          replace rf := F4.out.soft 1
          have v0 : (wr.drewN nq).drew.cell? ⟨w.heap.size + 1 + 1, 1, none⟩ = some (.int .i64 0) := F3.out.cell 1
          have vf := F3.out.soft 1
          clear X2 D1 D2 D3 D4 DC DB hwz
          generalize (wr.drewN nq).drew = W at *
          repeat still_step
          refine wpStill_nil ?_
          go_upto_region 10 with fail
          have G3 : Hid (Box ((W.setCell ⟨w.heap.size + 1 + 1, 1, none⟩ (.int .i64 x)).setCell ⟨rb, 1, none⟩ (.int .i64 ((q : Int) + 1))) (w.heap.size + 1 + 1) (vCells bs a 2) 60) := Lib.hid (by
            have := (F3.out.put 1 (.int .i64 x)).put_other (b := rb) (by omega) 1 (.int .i64 ((q : Int) + 1))
            have hxa : byt bs (a + 1) = x := by
              have e := HQ.out
              subst e
              exact HX.out
            simpa [vCells, hxa] using this)
          have G1 := Lib.hid ((F1.out.put_other (b := w.heap.size + 1 + 1) (by omega) 1 (.int .i64 x)).put_other (b := rb) (by omega) 1 (.int .i64 ((q : Int) + 1)))
          have G2 := Lib.hid ((F2.out.put_other (b := w.heap.size + 1 + 1) (by omega) 1 (.int .i64 x)).put_other (b := rb) (by omega) 1 (.int .i64 ((q : Int) + 1)))
          have G4 := Lib.hid ((F4.out.put_other (b := w.heap.size + 1 + 1) (by omega) 1 (.int .i64 x)).put 1 (.int .i64 ((q : Int) + 1)))
          have cs : Chg (fun i => i = rb ∨ i = w.heap.size + 1 + 1) W ((W.setCell ⟨w.heap.size + 1 + 1, 1, none⟩ (.int .i64 x)).setCell ⟨rb, 1, none⟩ (.int .i64 ((q : Int) + 1))) :=
            (Chg.cell (F := fun i => i = rb ∨ i = w.heap.size + 1 + 1) W ⟨w.heap.size + 1 + 1, 1, none⟩ _ (.inr rfl)).trans (Chg.cell (F := fun i => i = rb ∨ i = w.heap.size + 1 + 1) _ ⟨rb, 1, none⟩ _ (.inl rfl)) (fun _ _ h => h)
          have GC : Hid (Chg (fun i => i = rb) w ((W.setCell ⟨w.heap.size + 1 + 1, 1, none⟩ (.int .i64 x)).setCell ⟨rb, 1, none⟩ (.int .i64 ((q : Int) + 1)))) := Lib.hid (FC.out.trans cs (fun i hi h => by rcases h with h | h; exact h; omega))
          have GB := Lib.hid (FB.out.chg cs (by rintro (h | h); exact gr h; omega))
          clear cs F1 F2 F3 F4 FC FB hc r0 r1 rf v0 vf
          obtain ⟨Y, hY⟩ : ∃ Y, Y = (W.setCell ⟨w.heap.size + 1 + 1, 1, none⟩ (.int .i64 x)).setCell ⟨rb, 1, none⟩ (.int .i64 ((q : Int) + 1)) := ⟨_, rfl⟩
          rw [← hY] at G1 G2 G3 G4 GC GB ⊢
          clear hY
          obtain ⟨b0, hb0⟩ : ∃ b, byt bs a = b := ⟨_, rfl⟩
          have hxa : byt bs (a + 1) = x := by
            have e := HQ.out
            subst e
            exact HX.out
          have hat : instAt bs a 1 = (b0, x, 0, 0) := by simp [instAt, hb0, hxa]
          have y0 : Y.cell? ⟨w.heap.size + 1 + 1, 0, none⟩ = some (.int .i64 b0) := by
            rw [G3.out.cell 0]
            simp [vCells, hb0, hxa]
          have y1 : Y.cell? ⟨w.heap.size + 1 + 1, 1, none⟩ = some (.int .i64 x) := by
            rw [G3.out.cell 1]
            simp [vCells, hb0, hxa]
          have y2 : Y.cell? ⟨w.heap.size + 1 + 1, 2, none⟩ = some (.int .i64 0) := by
            rw [G3.out.cell 2]
            simp [vCells, hb0, hxa]
          have y3 : Y.cell? ⟨w.heap.size + 1 + 1, 3, none⟩ = some (.int .i64 0) := by
            rw [G3.out.cell 3]
            simp [vCells, hb0, hxa]
          have KW : Hid (∀ U, Calls Try.prog 23 #[.agg #[.int .i64 g, .int .i64 n, .int .i64 s], .agg #[.int .i64 b0, .int .i64 x, .int .i64 0, .int .i64 0]] U fun e w' => e = .returned (.int .i64 (wrongI g n s (b0, x, 0, 0))) ∧ Ex U w') := Lib.hid (fun U => wrong_any U (b0, x, 0, 0) HF.out)
          obtain ⟨r, hr⟩ : ∃ r, wrongI g n s (b0, x, 0, 0) = r := ⟨_, rfl⟩
          rw [hr] at KW
          have HRR : Hid (wrongI g n s (instAt bs a 1) = r) := Lib.hid (by rw [hat]; exact hr)
          have z0 : Y.cell? ⟨w.heap.size, 0, none⟩ = some (.int .i64 g) := G1.out.cell 0
          have z1 : Y.cell? ⟨w.heap.size, 1, none⟩ = some (.int .i64 n) := G1.out.cell 1
          have z2 : Y.cell? ⟨w.heap.size, 2, none⟩ = some (.int .i64 s) := G1.out.cell 2
          have zl := G1.out.lt
          clear hr hat hb0 hxa HX
          by_cases hrr : 0 ≤ r ∧ r ≤ 1
          · obtain ⟨r1, r2⟩ := hrr
            have HP : Hid (thrown (a + r.toNat) = .panicked [{ v := .iface 48 (.agg #[.int .i64 ((a : Int) + r)]), recovered := false }]) := Lib.hid (by unfold thrown badV; rw [show ((a + r.toNat : Nat) : Int) = (a : Int) + r by omega])
            go_wp2_with fail
            refine (KW.out _).mono ?_
            rintro e w5 ⟨rfl, h5⟩
            have X5 := Lib.hid ((Ex.made Y _).trans h5)
            clear h5 z0 z1 z2 y0 y1 y2 y3
            go_wp2_with fail
            refine ⟨rfl, ?_⟩
            have hd := DI.out
            rw [show 4 - 1 = 2 + 1 from rfl, instF_bad (by have := HQ.out; have := HE.out; omega) HRR.out ⟨r1, r2⟩] at hd
            rw [← hd]
            exact ⟨HP.out.symm, GC.out.ex X5.out⟩
          · have HNR := Lib.hid hrr
            have hcs : r < 0 ∨ (0 ≤ r ∧ 1 < r) := by omega
            clear hrr
            rcases hcs with hs | ⟨hs, hs2⟩
            all_goals
              go_wp2_with fail
              refine (KW.out _).mono ?_
              rintro e w5 ⟨rfl, h5⟩
              have X5 := Lib.hid ((Ex.made Y _).trans h5)
              clear h5 z0 z1 z2 y0 y1 y2 y3
              go_wp2_with fail
              go_roundw
              case rel =>
                refine ⟨2, q + 1, by omega, by have := HQ.out; omega, by go_num, G1.out.ex X5.out, G2.out.ex X5.out, G3.out.ex X5.out, ?_, GC.out.ex X5.out, GB.out.ex X5.out, ?_⟩
                · have := G4.out.ex X5.out
                  rw [show ((q + 1 : Nat) : Int) = (q : Int) + 1 by omega]
                  exact this
                · have hd := DI.out
                  rw [show 4 - 1 = 2 + 1 from rfl, instF_go (by have := HQ.out; have := HE.out; omega) HRR.out HNR.out] at hd
                  exact hd
              case measure => simp [intOf]
        · subst hk2
          rw [show ((2 : Nat) : Int) = 2 from rfl]
          go_wp2_with fail
          go_quiet (fail)
          go_wp2_with fail
          refine wp_region_still_tail 13 (by kernel_rfl) (by kernel_rfl) ?_
          simp only [List.take_succ_cons, List.take_zero, List.drop_succ_cons, List.drop_zero]
          rw [show ({ wr.drewN nq with drawn := (wr.drewN nq).drawn + 1 } : World) = (wr.drewN nq).drew from rfl]
          have X2 : Ex wr (wr.drewN nq).drew := (Ex.drawn _ _).trans (ex_drew _)
          have F1 := Lib.hid (D1.out.ex X2)
          have F2 := Lib.hid (D2.out.ex X2)
          have F3 := Lib.hid (D3.out.ex X2)
          have F4 := Lib.hid (D4.out.ex X2)
          have FC := Lib.hid (DC.out.ex X2)
          have FB := Lib.hid (DB.out.ex X2)
          replace hc := cell_later X2 hc
          replace r0 := cell_later X2 r0
          replace r1 := cell_later X2 r1
          replace rf := F4.out.soft 1
          have v0 : (wr.drewN nq).drew.cell? ⟨w.heap.size + 1 + 1, 2, none⟩ = some (.int .i64 0) := F3.out.cell 2
          have vf := F3.out.soft 2
          clear X2 D1 D2 D3 D4 DC DB hwz
          generalize (wr.drewN nq).drew = W at *
          repeat still_step
          refine wpStill_nil ?_
          go_upto_region 10 with fail
          have G3 : Hid (Box ((W.setCell ⟨w.heap.size + 1 + 1, 2, none⟩ (.int .i64 x)).setCell ⟨rb, 1, none⟩ (.int .i64 ((q : Int) + 1))) (w.heap.size + 1 + 1) (vCells bs a 3) 60) := Lib.hid (by
            have := (F3.out.put 2 (.int .i64 x)).put_other (b := rb) (by omega) 1 (.int .i64 ((q : Int) + 1))
            have hxa : byt bs (a + 2) = x := by
              have e := HQ.out
              subst e
              exact HX.out
            simpa [vCells, hxa] using this)
          have G1 := Lib.hid ((F1.out.put_other (b := w.heap.size + 1 + 1) (by omega) 2 (.int .i64 x)).put_other (b := rb) (by omega) 1 (.int .i64 ((q : Int) + 1)))
          have G2 := Lib.hid ((F2.out.put_other (b := w.heap.size + 1 + 1) (by omega) 2 (.int .i64 x)).put_other (b := rb) (by omega) 1 (.int .i64 ((q : Int) + 1)))
          have G4 := Lib.hid ((F4.out.put_other (b := w.heap.size + 1 + 1) (by omega) 2 (.int .i64 x)).put 1 (.int .i64 ((q : Int) + 1)))
          have cs : Chg (fun i => i = rb ∨ i = w.heap.size + 1 + 1) W ((W.setCell ⟨w.heap.size + 1 + 1, 2, none⟩ (.int .i64 x)).setCell ⟨rb, 1, none⟩ (.int .i64 ((q : Int) + 1))) :=
            (Chg.cell (F := fun i => i = rb ∨ i = w.heap.size + 1 + 1) W ⟨w.heap.size + 1 + 1, 2, none⟩ _ (.inr rfl)).trans (Chg.cell (F := fun i => i = rb ∨ i = w.heap.size + 1 + 1) _ ⟨rb, 1, none⟩ _ (.inl rfl)) (fun _ _ h => h)
          have GC : Hid (Chg (fun i => i = rb) w ((W.setCell ⟨w.heap.size + 1 + 1, 2, none⟩ (.int .i64 x)).setCell ⟨rb, 1, none⟩ (.int .i64 ((q : Int) + 1)))) := Lib.hid (FC.out.trans cs (fun i hi h => by rcases h with h | h; exact h; omega))
          have GB := Lib.hid (FB.out.chg cs (by rintro (h | h); exact gr h; omega))
          clear cs F1 F2 F3 F4 FC FB hc r0 r1 rf v0 vf
          obtain ⟨Y, hY⟩ : ∃ Y, Y = (W.setCell ⟨w.heap.size + 1 + 1, 2, none⟩ (.int .i64 x)).setCell ⟨rb, 1, none⟩ (.int .i64 ((q : Int) + 1)) := ⟨_, rfl⟩
          rw [← hY] at G1 G2 G3 G4 GC GB ⊢
          clear hY
          obtain ⟨b0, hb0⟩ : ∃ b, byt bs a = b := ⟨_, rfl⟩
          obtain ⟨b1, hb1⟩ : ∃ b, byt bs (a + 1) = b := ⟨_, rfl⟩
          have hxa : byt bs (a + 2) = x := by
            have e := HQ.out
            subst e
            exact HX.out
          have hat : instAt bs a 2 = (b0, b1, x, 0) := by simp [instAt, hb0, hb1, hxa]
          have y0 : Y.cell? ⟨w.heap.size + 1 + 1, 0, none⟩ = some (.int .i64 b0) := by
            rw [G3.out.cell 0]
            simp [vCells, hb0, hb1, hxa]
          have y1 : Y.cell? ⟨w.heap.size + 1 + 1, 1, none⟩ = some (.int .i64 b1) := by
            rw [G3.out.cell 1]
            simp [vCells, hb0, hb1, hxa]
          have y2 : Y.cell? ⟨w.heap.size + 1 + 1, 2, none⟩ = some (.int .i64 x) := by
            rw [G3.out.cell 2]
            simp [vCells, hb0, hb1, hxa]
          have y3 : Y.cell? ⟨w.heap.size + 1 + 1, 3, none⟩ = some (.int .i64 0) := by
            rw [G3.out.cell 3]
            simp [vCells, hb0, hb1, hxa]
          have KW : Hid (∀ U, Calls Try.prog 23 #[.agg #[.int .i64 g, .int .i64 n, .int .i64 s], .agg #[.int .i64 b0, .int .i64 b1, .int .i64 x, .int .i64 0]] U fun e w' => e = .returned (.int .i64 (wrongI g n s (b0, b1, x, 0))) ∧ Ex U w') := Lib.hid (fun U => wrong_any U (b0, b1, x, 0) HF.out)
          obtain ⟨r, hr⟩ : ∃ r, wrongI g n s (b0, b1, x, 0) = r := ⟨_, rfl⟩
          rw [hr] at KW
          have HRR : Hid (wrongI g n s (instAt bs a 2) = r) := Lib.hid (by rw [hat]; exact hr)
          have z0 : Y.cell? ⟨w.heap.size, 0, none⟩ = some (.int .i64 g) := G1.out.cell 0
          have z1 : Y.cell? ⟨w.heap.size, 1, none⟩ = some (.int .i64 n) := G1.out.cell 1
          have z2 : Y.cell? ⟨w.heap.size, 2, none⟩ = some (.int .i64 s) := G1.out.cell 2
          have zl := G1.out.lt
          clear hr hat hb0 hb1 hxa HX
          by_cases hrr : 0 ≤ r ∧ r ≤ 2
          · obtain ⟨r1, r2⟩ := hrr
            have HP : Hid (thrown (a + r.toNat) = .panicked [{ v := .iface 48 (.agg #[.int .i64 ((a : Int) + r)]), recovered := false }]) := Lib.hid (by unfold thrown badV; rw [show ((a + r.toNat : Nat) : Int) = (a : Int) + r by omega])
            go_wp2_with fail
            refine (KW.out _).mono ?_
            rintro e w5 ⟨rfl, h5⟩
            have X5 := Lib.hid ((Ex.made Y _).trans h5)
            clear h5 z0 z1 z2 y0 y1 y2 y3
            go_wp2_with fail
            refine ⟨rfl, ?_⟩
            have hd := DI.out
            rw [show 4 - 2 = 1 + 1 from rfl, instF_bad (by have := HQ.out; have := HE.out; omega) HRR.out ⟨r1, r2⟩] at hd
            rw [← hd]
            exact ⟨HP.out.symm, GC.out.ex X5.out⟩
          · have HNR := Lib.hid hrr
            have hcs : r < 0 ∨ (0 ≤ r ∧ 2 < r) := by omega
            clear hrr
            rcases hcs with hs | ⟨hs, hs2⟩
            all_goals
              go_wp2_with fail
              refine (KW.out _).mono ?_
              rintro e w5 ⟨rfl, h5⟩
              have X5 := Lib.hid ((Ex.made Y _).trans h5)
              clear h5 z0 z1 z2 y0 y1 y2 y3
              go_wp2_with fail
              go_roundw
              case rel =>
                refine ⟨3, q + 1, by omega, by have := HQ.out; omega, by go_num, G1.out.ex X5.out, G2.out.ex X5.out, G3.out.ex X5.out, ?_, GC.out.ex X5.out, GB.out.ex X5.out, ?_⟩
                · have := G4.out.ex X5.out
                  rw [show ((q + 1 : Nat) : Int) = (q : Int) + 1 by omega]
                  exact this
                · have hd := DI.out
                  rw [show 4 - 2 = 1 + 1 from rfl, instF_go (by have := HQ.out; have := HE.out; omega) HRR.out HNR.out] at hd
                  exact hd
              case measure => simp [intOf]
        · subst hk3
          rw [show ((3 : Nat) : Int) = 3 from rfl]
          go_wp2_with fail
          go_quiet (fail)
          go_wp2_with fail
          refine wp_region_still_tail 13 (by kernel_rfl) (by kernel_rfl) ?_
          simp only [List.take_succ_cons, List.take_zero, List.drop_succ_cons, List.drop_zero]
          rw [show ({ wr.drewN nq with drawn := (wr.drewN nq).drawn + 1 } : World) = (wr.drewN nq).drew from rfl]
          have X2 : Ex wr (wr.drewN nq).drew := (Ex.drawn _ _).trans (ex_drew _)
          have F1 := Lib.hid (D1.out.ex X2)
          have F2 := Lib.hid (D2.out.ex X2)
          have F3 := Lib.hid (D3.out.ex X2)
          have F4 := Lib.hid (D4.out.ex X2)
          have FC := Lib.hid (DC.out.ex X2)
          have FB := Lib.hid (DB.out.ex X2)
          replace hc := cell_later X2 hc
          replace r0 := cell_later X2 r0
          replace r1 := cell_later X2 r1
          replace rf := F4.out.soft 1
          have v0 : (wr.drewN nq).drew.cell? ⟨w.heap.size + 1 + 1, 3, none⟩ = some (.int .i64 0) := F3.out.cell 3
          have vf := F3.out.soft 3
          clear X2 D1 D2 D3 D4 DC DB hwz
          generalize (wr.drewN nq).drew = W at *
          repeat still_step
          refine wpStill_nil ?_
          go_upto_region 10 with fail
          have G3 : Hid (Box ((W.setCell ⟨w.heap.size + 1 + 1, 3, none⟩ (.int .i64 x)).setCell ⟨rb, 1, none⟩ (.int .i64 ((q : Int) + 1))) (w.heap.size + 1 + 1) (vCells bs a 4) 60) := Lib.hid (by
            have := (F3.out.put 3 (.int .i64 x)).put_other (b := rb) (by omega) 1 (.int .i64 ((q : Int) + 1))
            have hxa : byt bs (a + 3) = x := by
              have e := HQ.out
              subst e
              exact HX.out
            simpa [vCells, hxa] using this)
          have G1 := Lib.hid ((F1.out.put_other (b := w.heap.size + 1 + 1) (by omega) 3 (.int .i64 x)).put_other (b := rb) (by omega) 1 (.int .i64 ((q : Int) + 1)))
          have G2 := Lib.hid ((F2.out.put_other (b := w.heap.size + 1 + 1) (by omega) 3 (.int .i64 x)).put_other (b := rb) (by omega) 1 (.int .i64 ((q : Int) + 1)))
          have G4 := Lib.hid ((F4.out.put_other (b := w.heap.size + 1 + 1) (by omega) 3 (.int .i64 x)).put 1 (.int .i64 ((q : Int) + 1)))
          have cs : Chg (fun i => i = rb ∨ i = w.heap.size + 1 + 1) W ((W.setCell ⟨w.heap.size + 1 + 1, 3, none⟩ (.int .i64 x)).setCell ⟨rb, 1, none⟩ (.int .i64 ((q : Int) + 1))) :=
            (Chg.cell (F := fun i => i = rb ∨ i = w.heap.size + 1 + 1) W ⟨w.heap.size + 1 + 1, 3, none⟩ _ (.inr rfl)).trans (Chg.cell (F := fun i => i = rb ∨ i = w.heap.size + 1 + 1) _ ⟨rb, 1, none⟩ _ (.inl rfl)) (fun _ _ h => h)
          have GC : Hid (Chg (fun i => i = rb) w ((W.setCell ⟨w.heap.size + 1 + 1, 3, none⟩ (.int .i64 x)).setCell ⟨rb, 1, none⟩ (.int .i64 ((q : Int) + 1)))) := Lib.hid (FC.out.trans cs (fun i hi h => by rcases h with h | h; exact h; omega))
          have GB := Lib.hid (FB.out.chg cs (by rintro (h | h); exact gr h; omega))
          clear cs F1 F2 F3 F4 FC FB hc r0 r1 rf v0 vf
          obtain ⟨Y, hY⟩ : ∃ Y, Y = (W.setCell ⟨w.heap.size + 1 + 1, 3, none⟩ (.int .i64 x)).setCell ⟨rb, 1, none⟩ (.int .i64 ((q : Int) + 1)) := ⟨_, rfl⟩
          rw [← hY] at G1 G2 G3 G4 GC GB ⊢
          clear hY
          obtain ⟨b0, hb0⟩ : ∃ b, byt bs a = b := ⟨_, rfl⟩
          obtain ⟨b1, hb1⟩ : ∃ b, byt bs (a + 1) = b := ⟨_, rfl⟩
          obtain ⟨b2, hb2⟩ : ∃ b, byt bs (a + 2) = b := ⟨_, rfl⟩
          have hxa : byt bs (a + 3) = x := by
            have e := HQ.out
            subst e
            exact HX.out
          have hat : instAt bs a 3 = (b0, b1, b2, x) := by simp [instAt, hb0, hb1, hb2, hxa]
          have y0 : Y.cell? ⟨w.heap.size + 1 + 1, 0, none⟩ = some (.int .i64 b0) := by
            rw [G3.out.cell 0]
            simp [vCells, hb0, hb1, hb2, hxa]
          have y1 : Y.cell? ⟨w.heap.size + 1 + 1, 1, none⟩ = some (.int .i64 b1) := by
            rw [G3.out.cell 1]
            simp [vCells, hb0, hb1, hb2, hxa]
          have y2 : Y.cell? ⟨w.heap.size + 1 + 1, 2, none⟩ = some (.int .i64 b2) := by
            rw [G3.out.cell 2]
            simp [vCells, hb0, hb1, hb2, hxa]
          have y3 : Y.cell? ⟨w.heap.size + 1 + 1, 3, none⟩ = some (.int .i64 x) := by
            rw [G3.out.cell 3]
            simp [vCells, hb0, hb1, hb2, hxa]
          have KW : Hid (∀ U, Calls Try.prog 23 #[.agg #[.int .i64 g, .int .i64 n, .int .i64 s], .agg #[.int .i64 b0, .int .i64 b1, .int .i64 b2, .int .i64 x]] U fun e w' => e = .returned (.int .i64 (wrongI g n s (b0, b1, b2, x))) ∧ Ex U w') := Lib.hid (fun U => wrong_any U (b0, b1, b2, x) HF.out)
          obtain ⟨r, hr⟩ : ∃ r, wrongI g n s (b0, b1, b2, x) = r := ⟨_, rfl⟩
          rw [hr] at KW
          have HRR : Hid (wrongI g n s (instAt bs a 3) = r) := Lib.hid (by rw [hat]; exact hr)
          have z0 : Y.cell? ⟨w.heap.size, 0, none⟩ = some (.int .i64 g) := G1.out.cell 0
          have z1 : Y.cell? ⟨w.heap.size, 1, none⟩ = some (.int .i64 n) := G1.out.cell 1
          have z2 : Y.cell? ⟨w.heap.size, 2, none⟩ = some (.int .i64 s) := G1.out.cell 2
          have zl := G1.out.lt
          clear hr hat hb0 hb1 hb2 hxa HX
          by_cases hrr : 0 ≤ r ∧ r ≤ 3
          · obtain ⟨r1, r2⟩ := hrr
            have HP : Hid (thrown (a + r.toNat) = .panicked [{ v := .iface 48 (.agg #[.int .i64 ((a : Int) + r)]), recovered := false }]) := Lib.hid (by unfold thrown badV; rw [show ((a + r.toNat : Nat) : Int) = (a : Int) + r by omega])
            go_wp2_with fail
            refine (KW.out _).mono ?_
            rintro e w5 ⟨rfl, h5⟩
            have X5 := Lib.hid ((Ex.made Y _).trans h5)
            clear h5 z0 z1 z2 y0 y1 y2 y3
            go_wp2_with fail
            refine ⟨rfl, ?_⟩
            have hd := DI.out
            rw [show 4 - 3 = 0 + 1 from rfl, instF_bad (by have := HQ.out; have := HE.out; omega) HRR.out ⟨r1, r2⟩] at hd
            rw [← hd]
            exact ⟨HP.out.symm, GC.out.ex X5.out⟩
          · have HNR := Lib.hid hrr
            have hcs : r < 0 ∨ (0 ≤ r ∧ 3 < r) := by omega
            clear hrr
            rcases hcs with hs | ⟨hs, hs2⟩
            all_goals
              go_wp2_with fail
              refine (KW.out _).mono ?_
              rintro e w5 ⟨rfl, h5⟩
              have X5 := Lib.hid ((Ex.made Y _).trans h5)
              clear h5 z0 z1 z2 y0 y1 y2 y3
              go_wp2_with fail
              go_roundw
              case rel =>
                refine ⟨4, q + 1, by omega, by have := HQ.out; omega, by go_num, G1.out.ex X5.out, G2.out.ex X5.out, G3.out.ex X5.out, ?_, GC.out.ex X5.out, GB.out.ex X5.out, ?_⟩
                · have := G4.out.ex X5.out
                  rw [show ((q + 1 : Nat) : Int) = (q : Int) + 1 by omega]
                  exact this
                · have hd := DI.out
                  rw [show 4 - 3 = 0 + 1 from rfl, instF_go (by have := HQ.out; have := HE.out; omega) HRR.out HNR.out] at hd
                  exact hd
              case measure => simp [intOf]
    · obtain rfl : k = 4 := by omega
      obtain ⟨b0, hb0⟩ : ∃ b, byt bs a = b := ⟨_, rfl⟩
      obtain ⟨b1, hb1⟩ : ∃ b, byt bs (a + 1) = b := ⟨_, rfl⟩
      obtain ⟨b2, hb2⟩ : ∃ b, byt bs (a + 2) = b := ⟨_, rfl⟩
      obtain ⟨b3, hb3⟩ : ∃ b, byt bs (a + 3) = b := ⟨_, rfl⟩
      have y0 : wr.cell? ⟨w.heap.size + 1 + 1, 0, none⟩ = some (.int .i64 b0) := by rw [D3.out.cell 0]; simp [vCells, hb0]
      have y1 : wr.cell? ⟨w.heap.size + 1 + 1, 1, none⟩ = some (.int .i64 b1) := by rw [D3.out.cell 1]; simp [vCells, hb1]
      have y2 : wr.cell? ⟨w.heap.size + 1 + 1, 2, none⟩ = some (.int .i64 b2) := by rw [D3.out.cell 2]; simp [vCells, hb2]
      have y3 : wr.cell? ⟨w.heap.size + 1 + 1, 3, none⟩ = some (.int .i64 b3) := by rw [D3.out.cell 3]; simp [vCells, hb3]
      have hat : instAt bs a 3 = (b0, b1, b2, b3) := by simp [instAt, hb0, hb1, hb2, hb3]
      have hd : instD g n s bs a = .ok (b0, b1, b2, b3) := by
        have := DI.out
        rw [show 4 - 4 = 0 from rfl, instF, hat] at this
        exact this.symm
      have HD := Lib.hid hd
      have z0 : wr.cell? ⟨w.heap.size + 1, 0, none⟩ = some (.int .i64 0) := D2.out.cell 0
      have z1 : wr.cell? ⟨w.heap.size + 1, 1, none⟩ = some (.int .i64 0) := D2.out.cell 1
      have z2 : wr.cell? ⟨w.heap.size + 1, 2, none⟩ = some (.int .i64 0) := D2.out.cell 2
      have z3 : wr.cell? ⟨w.heap.size + 1, 3, none⟩ = some (.int .i64 0) := D2.out.cell 3
      have g0 := D2.out.soft 0
      have g1 := D2.out.soft 1
      have g2 := D2.out.soft 2
      have g3 := D2.out.soft 3
      have gl := D2.out.lt
      clear hb0 hb1 hb2 hb3 hat hd r0 r1 rf
      rw [show ((4 : Nat) : Int) = 4 from rfl]
      go_wp2_with fail
      refine bodyPost_ret (v := instV (b0, b1, b2, b3)) (by simp [results, Try.results20, go_sem, instV, z0, z1, z2, z3]) rfl ?_
      rw [HD.out]
      refine ⟨rfl, ?_, ?_⟩
      · have := HQ.out
        have hq3 : (q : Int) = (a : Int) + 4 := by omega
        have b := D4.out
        rw [hq3] at b
        exact (((b.put_other (b := w.heap.size + 1) (by omega) 0 _).put_other (b := w.heap.size + 1) (by omega) 1 _).put_other (b := w.heap.size + 1) (by omega) 2 _).put_other (b := w.heap.size + 1) (by omega) 3 _
      · have c4 := ((((Chg.cell (F := fun i => i = w.heap.size + 1) wr ⟨w.heap.size + 1, 0, none⟩ (.int .i64 b0) rfl).trans (Chg.cell (F := fun i => i = w.heap.size + 1) _ ⟨w.heap.size + 1, 1, none⟩ (.int .i64 b1) rfl) (fun _ _ h => h)).trans (Chg.cell (F := fun i => i = w.heap.size + 1) _ ⟨w.heap.size + 1, 2, none⟩ (.int .i64 b2) rfl) (fun _ _ h => h)).trans (Chg.cell (F := fun i => i = w.heap.size + 1) _ ⟨w.heap.size + 1, 3, none⟩ (.int .i64 b3) rfl) (fun _ _ h => h))
        exact DC.out.trans c4 (fun i hi h => by omega)

end Go.Proofs.Ytmajnjbjoagihaa
