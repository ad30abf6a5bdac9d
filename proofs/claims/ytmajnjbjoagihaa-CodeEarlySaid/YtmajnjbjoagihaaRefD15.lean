/- The document's Decode. -/
import Derived.Test.YtmajnjbjoagihaaRefK15
import Derived.Test.YtmajnjbjoagihaaDecL15
import Derived.Deep.AppendLies
namespace Go.Proofs.Ytmajnjbjoagihaa
open Go.RowKit
set_option linter.unusedVariables false
set_option linter.unusedSimpArgs false

set_option maxHeartbeats 1600000 in
theorem bad_any (w : World) (p : Int) : Calls Try.prog 21 #[.int .i64 p] w fun e w' => e = .returned (.tuple #[.agg #[.int .i64 0, .slice none 0 0], .int .i64 6, .int .i64 p]) ∧ Ex w w' := by
  go_enter Try.func21, Try.ntmps21
  go_wp2_with fail
  exact bodyPost_ret (v := .tuple #[.agg #[.int .i64 0, .slice none 0 0], .int .i64 6, .int .i64 p]) (by simp [results, Try.results21, go_sem]) rfl ⟨rfl, (Ex.made _ _)⟩

/-- The state of the document's Decode. -/
structure DR (w wr : World) (v : Value) (bs : List Int) (g : Int) (fv : Value) : Prop where
  r : Box wr w.heap.size #[.int .i64 0, .slice none 0 0] 24
  p : Box wr (w.heap.size + 1) #[.int .i64 g, fv] 24
  b : Bs wr v bs
  x : Ex w wr
theorem DR.ex {w wr w2 : World} {v : Value} {bs : List Int} {g : Int} {fv : Value} (h : DR w wr v bs g fv) (x : Ex wr w2) : DR w w2 v bs g fv :=
  ⟨h.r.ex x, h.p.ex x, h.b.ex x, h.x.trans x⟩
theorem DR.chg {F : Nat → Prop} {w wr w2 : World} {g' o cap : Nat} {bs : List Int} {g : Int} {fv : Value} (h : DR w wr (.slice (some ⟨g', o, none⟩) bs.length cap) bs g fv) (hg : g' < w.heap.size) (hc : Chg F wr w2) (hF : ∀ i, F i → w.heap.size + 2 ≤ i) :
    DR w w2 (.slice (some ⟨g', o, none⟩) bs.length cap) bs g fv :=
  ⟨h.r.chg hc (fun k => by have := hF _ k; omega), h.p.chg hc (fun k => by have := hF _ k; omega), h.b.chg hc (fun k => by have := hF _ k; omega), Below.trans h.x (hc.below h.x.size (fun i hi => by have := hF _ hi; omega))⟩
theorem DR.start {w : World} {v : Value} {bs : List Int} (h : Bs w v bs) : DR w ((w.alloc (.cells #[.int .i64 0, .slice none 0 0] 24)).alloc (.cells #[.int .i64 0, .slice none 0 0] 24)) v bs 0 (.slice none 0 0) := by
  have x1 := Ex.made w (.cells #[.int .i64 0, .slice none 0 0] 24)
  have x2 := Ex.made (w.alloc (.cells #[.int .i64 0, .slice none 0 0] 24)) (.cells #[.int .i64 0, .slice none 0 0] 24)
  refine ⟨(Box.fresh w _ _).ex x2, ?_, h.ex (x1.trans x2), x1.trans x2⟩
  have := Box.fresh (w.alloc (.cells #[.int .i64 0, .slice none 0 0] 24)) #[.int .i64 0, .slice none 0 0] 24
  simpa using this

--WALK
set_option maxHeartbeats 1600000 in
theorem rfin_bad {w W : World} {p : Int} {q : Nat} {r : Except Nat (Int × List (List I4))} (hr : r = .error q ∧ p = q) (tmps : Array Value)
    (t2 : tmps.getD 2 undef = .pointer (some ⟨w.heap.size, 0, none⟩)) (t3 : tmps.getD 3 undef = .int .i64 6) (t4 : tmps.getD 4 undef = .int .i64 p)
    (h0 : Box W w.heap.size #[.int .i64 0, .slice none 0 0] 24) (hx : Ex w W) :
    bodyPost Try.prog Try.f12 (DecDone w r) Exit.ret { tmps := tmps, defers := [] } ((W.setCell ⟨w.heap.size, 0, none⟩ (.int .i64 0)).setCell ⟨w.heap.size, 1, none⟩ (.slice none 0 0)) := by
  obtain ⟨rfl, rfl⟩ := hr
  have b0 := (h0.put 0 (.int .i64 0)).put 1 (.slice none 0 0)
  have c0 : ((W.setCell ⟨w.heap.size, 0, none⟩ (.int .i64 0)).setCell ⟨w.heap.size, 1, none⟩ (.slice none 0 0)).cell? ⟨w.heap.size, 0, none⟩ = some (.int .i64 0) := b0.cell 0
  have c1 : ((W.setCell ⟨w.heap.size, 0, none⟩ (.int .i64 0)).setCell ⟨w.heap.size, 1, none⟩ (.slice none 0 0)).cell? ⟨w.heap.size, 1, none⟩ = some (.slice none 0 0) := b0.cell 1
  have cx : Chg (fun i => i = w.heap.size) W ((W.setCell ⟨w.heap.size, 0, none⟩ (.int .i64 0)).setCell ⟨w.heap.size, 1, none⟩ (.slice none 0 0)) :=
    (Chg.cell (F := fun i => i = w.heap.size) W ⟨w.heap.size, 0, none⟩ (.int .i64 0) rfl).trans (Chg.cell (F := fun i => i = w.heap.size) _ ⟨w.heap.size, 1, none⟩ (.slice none 0 0) rfl) (fun _ _ h => h)
  have hfin : DecDone w (.error q) (.returned (.tuple #[.agg #[.int .i64 0, .slice none 0 0], .int .i64 6, .int .i64 (q : Int)])) ((W.setCell ⟨w.heap.size, 0, none⟩ (.int .i64 0)).setCell ⟨w.heap.size, 1, none⟩ (.slice none 0 0)) :=
    ⟨rfl, Below.trans hx (cx.below hx.size (fun i hi => by subst hi; omega))⟩
  have HF := Lib.hid hfin
  clear hfin cx b0 h0 hx
  generalize ((W.setCell ⟨w.heap.size, 0, none⟩ (.int .i64 0)).setCell ⟨w.heap.size, 1, none⟩ (.slice none 0 0)) = U at *
  have s2 : tmps[2]?.getD undef = .pointer (some ⟨w.heap.size, 0, none⟩) := by simpa using t2
  have s3 : tmps[3]?.getD undef = .int .i64 6 := by simpa using t3
  have s4 : tmps[4]?.getD undef = .int .i64 (q : Int) := by simpa using t4
  refine bodyPost_ret (v := .tuple #[.agg #[.int .i64 0, .slice none 0 0], .int .i64 6, .int .i64 (q : Int)]) ?_ rfl HF.out
  simp [results, Try.results12, go_sem, s2, s3, s4, c0, c1]

set_option maxHeartbeats 1600000 in
theorem rfin_ok {w W : World} {g : Int} {fv : Value} {F : List (List I4)} {r : Except Nat (Int × List (List I4))} (hr : r = .ok (g, F)) (tmps : Array Value)
    (t2 : tmps.getD 2 undef = .pointer (some ⟨w.heap.size, 0, none⟩)) (t3 : tmps.getD 3 undef = .int .i64 0) (t4 : tmps.getD 4 undef = .int .i64 0)
    (h0 : Box W w.heap.size #[.int .i64 g, fv] 24) (hx : Ex w W) (hf : RdP W fv F) :
    bodyPost Try.prog Try.f12 (DecDone w r) Exit.ret { tmps := tmps, defers := [] } W := by
  subst hr
  have c0 : W.cell? ⟨w.heap.size, 0, none⟩ = some (.int .i64 g) := h0.cell 0
  have c1 : W.cell? ⟨w.heap.size, 1, none⟩ = some fv := h0.cell 1
  have hfin : DecDone w (.ok (g, F)) (.returned (.tuple #[.agg #[.int .i64 g, fv], .int .i64 0, .int .i64 0])) W := ⟨⟨fv, rfl, hf⟩, hx⟩
  have HF := Lib.hid hfin
  clear hfin h0 hx hf
  have s2 : tmps[2]?.getD undef = .pointer (some ⟨w.heap.size, 0, none⟩) := by simpa using t2
  have s3 : tmps[3]?.getD undef = .int .i64 0 := by simpa using t3
  have s4 : tmps[4]?.getD undef = .int .i64 0 := by simpa using t4
  refine bodyPost_ret (v := .tuple #[.agg #[.int .i64 g, fv], .int .i64 0, .int .i64 0]) ?_ rfl HF.out
  simp [results, Try.results12, go_sem, s2, s3, s4, c0, c1]

theorem vCells_put (bs : List Int) (a k : Nat) (h : k < 4) : (vCells bs a k).setIfInBounds k (.int .i64 (byt bs (a + k))) = vCells bs a (k + 1) := by
  rcases (by omega : k = 0 ∨ k = 1 ∨ k = 2 ∨ k = 3) with rfl | rfl | rfl | rfl <;> simp [vCells]
theorem ite_same {a b : Prop} [Decidable a] [Decidable b] (x y : Int) (h : a ↔ b) : (if a then x else y) = (if b then x else y) := by
  by_cases k : b
  · rw [if_pos k, if_pos (h.2 k)]
  · rw [if_neg k, if_neg (fun c => k (h.1 c))]
theorem vCells_at (bs : List Int) (a k : Nat) : (vCells bs a (k + 1))[0]? = some (.int .i64 (instAt bs a k).1) ∧ (vCells bs a (k + 1))[1]? = some (.int .i64 (instAt bs a k).2.1) ∧ (vCells bs a (k + 1))[2]? = some (.int .i64 (instAt bs a k).2.2.1) ∧ (vCells bs a (k + 1))[3]? = some (.int .i64 (instAt bs a k).2.2.2) := by
  refine ⟨?_, ?_, ?_, ?_⟩
  · simp [vCells, instAt]
  · show some (Value.int .i64 (if 1 < k + 1 then byt bs (a + 1) else 0)) = some (.int .i64 (if 1 ≤ k then byt bs (a + 1) else 0))
    rw [ite_same _ _ (show 1 < k + 1 ↔ 1 ≤ k by omega)]
  · show some (Value.int .i64 (if 2 < k + 1 then byt bs (a + 2) else 0)) = some (.int .i64 (if 2 ≤ k then byt bs (a + 2) else 0))
    rw [ite_same _ _ (show 2 < k + 1 ↔ 2 ≤ k by omega)]
  · show some (Value.int .i64 (if 3 < k + 1 then byt bs (a + 3) else 0)) = some (.int .i64 (if 3 ≤ k then byt bs (a + 3) else 0))
    rw [ite_same _ _ (show 3 < k + 1 ↔ 3 ≤ k by omega)]
theorem vCells_free (bs : List Int) (a k : Nat) (h : k < 4) : (vCells bs a k)[k]? = some (.int .i64 0) := by
  rcases (by omega : k = 0 ∨ k = 1 ∨ k = 2 ∨ k = 3) with rfl | rfl | rfl | rfl <;> simp [vCells]
theorem vCells_zero (bs : List Int) (a : Nat) : vCells bs a 0 = #[.int .i64 0, .int .i64 0, .int .i64 0, .int .i64 0] := by simp [vCells]

set_option maxRecDepth 20000 in
set_option maxHeartbeats 12800000 in
theorem rdecode_any {w : World} {v : Value} {bs : List Int} (h : Bs w v bs) :
    Calls Try.prog 12 #[v] w (DecDone w (decD bs)) := by
  obtain ⟨va, cap, rfl⟩ := h.val
  have HB := Lib.hid h
  have L := h.len
  have D0 := Lib.hid (DR.start HB.out)
  by_cases hl0 : 0 < bs.length
  · obtain ⟨gb, ob, rfl, -, hcap, hc, x1, x2⟩ := h.at 0 hl0
    have gl : gb < w.heap.size := HB.out.gl hl0
    obtain ⟨n, hn⟩ : ∃ n, bs.getD 0 0 = n := ⟨_, rfl⟩
    have HN := Lib.hid hn
    rw [hn] at x1 x2
    have H1 := Lib.hid hl0
    have l1 : 1 ≤ (bs.length : Int) := by omega
    have l2 : (bs.length : Int) ≤ (cap : Int) := by omega
    clear h hc hl0 hn
    go_enter Try.func12, Try.ntmps12
    go_upto_region 4 with fail
    obtain ⟨W, hW⟩ : ∃ W, W = ((w.alloc (.cells #[.int .i64 0, .slice none 0 0] 24)).alloc (.cells #[.int .i64 0, .slice none 0 0] 24)) := ⟨_, rfl⟩
    rw [← hW] at D0 ⊢
    clear hW
    have hc : W.cell? ⟨gb, ob, none⟩ = some (.int .u8 n) := by
      obtain ⟨g', o', e1, -, -, hc, -⟩ := D0.out.b.at 0 H1.out
      cases e1
      rw [HN.out] at hc
      exact hc
    by_cases hn1 : n < 1
    · have HE : decD bs = .error 0 := by
        unfold decD
        rw [if_neg (by have := H1.out; omega), if_pos (by rw [HN.out]; omega)]
      have HEH := Lib.hid HE
      clear HE
      go_upto_region 6 with fail
      clear hc
      go_wp2_with fail
      refine (bad_any _ _).mono ?_
      rintro e w9 ⟨rfl, hx9⟩
      have D9 := Lib.hid (D0.out.ex hx9)
      clear hx9
      have c0 := D9.out.r.cell 0
      have c1 := D9.out.r.cell 1
      have f0 := D9.out.r.soft 0
      have f1 := D9.out.r.soft 1
      go_wp2_with fail
      exact rfin_bad ⟨HEH.out,rfl⟩ _ rfl rfl rfl D9.out.r D9.out.x
    by_cases hn2 : 16 < n
    · have HE : decD bs = .error 0 := by
        unfold decD
        rw [if_neg (by have := H1.out; omega), if_pos (by rw [HN.out]; omega)]
      have HEH := Lib.hid HE
      clear HE
      have hn1' : 1 ≤ n := by omega
      clear hn1
      go_upto_region 6 with fail
      clear hc
      go_wp2_with fail
      refine (bad_any _ _).mono ?_
      rintro e w9 ⟨rfl, hx9⟩
      have D9 := Lib.hid (D0.out.ex hx9)
      clear hx9
      have c0 := D9.out.r.cell 0
      have c1 := D9.out.r.cell 1
      have f0 := D9.out.r.soft 0
      have f1 := D9.out.r.soft 1
      go_wp2_with fail
      exact rfin_bad ⟨HEH.out,rfl⟩ _ rfl rfl rfl D9.out.r D9.out.x
    have n1 : 1 ≤ n := by omega
    have n2 : n ≤ 16 := by omega
    clear hn1 hn2
    go_upto_region 7 with fail
    clear hc
    by_cases hl1 : 1 < bs.length
    · have l3 : 2 ≤ (bs.length : Int) := by omega
      obtain ⟨g', o', e1, -, -, hc, g1, g2⟩ := D0.out.b.at 1 hl1
      cases e1
      obtain ⟨g, hg⟩ : ∃ n, bs.getD 1 0 = n := ⟨_, rfl⟩
      rw [hg] at hc g1 g2
      have HG := Lib.hid hg
      have H2 := Lib.hid hl1
      have p0 := D0.out.p.cell 0
      have pf := D0.out.p.soft 0
      clear hg hl1
      go_upto_region 10 with fail
      have D3 : Hid (DR w (W.setCell ⟨w.heap.size + 1, 0, none⟩ (.int .i64 g)) (.slice (some ⟨gb, ob, none⟩) bs.length cap) bs g (.slice none 0 0)) := Lib.hid (by
        have d := D0.out
        exact ⟨d.r.put_other (by omega) 0 _, d.p.put 0 _, d.b.chg (Chg.cell (F := fun i => i = w.heap.size + 1) W ⟨w.heap.size + 1, 0, none⟩ _ rfl) (by omega),
          Below.trans d.x ((Chg.cell (F := fun i => i = w.heap.size + 1) W ⟨w.heap.size + 1, 0, none⟩ _ rfl).below d.x.size (fun i hi => by subst hi; omega))⟩)
      clear hc p0 pf
      obtain ⟨W3, hW3⟩ : ∃ W3, W3 = W.setCell ⟨w.heap.size + 1, 0, none⟩ (.int .i64 g) := ⟨_, rfl⟩
      rw [← hW3] at D3 ⊢
      clear hW3 D0
      have p0 : W3.cell? ⟨w.heap.size + 1, 0, none⟩ = some (.int .i64 g) := D3.out.p.cell 0
      by_cases hg3 : 32 < g
      · have HE : decD bs = .error 1 := by
          unfold decD
          rw [if_neg (by have := H1.out; omega), if_neg (by rw [HN.out]; omega), if_neg (by have := H2.out; omega), if_pos (by rw [HG.out]; omega)]
        have HEH := Lib.hid HE
        clear HE
        go_upto_region 11 with fail
        clear p0
        go_wp2_with fail
        refine (bad_any _ _).mono ?_
        rintro e w9 ⟨rfl, hx9⟩
        have D9 := Lib.hid (D3.out.ex hx9)
        clear hx9
        have c0 := D9.out.r.cell 0
        have c1 := D9.out.r.cell 1
        have f0 := D9.out.r.soft 0
        have f1 := D9.out.r.soft 1
        go_wp2_with fail
        exact rfin_bad ⟨HEH.out,rfl⟩ _ rfl rfl rfl D9.out.r D9.out.x
      have g3 : g ≤ 32 := by omega
      clear hg3
      obtain ⟨r, hr⟩ : ∃ r, funcsA g n bs n.toNat 2 [] = r := ⟨_, rfl⟩
      have hdec : decD bs = finD bs g r := by
        unfold decD
        rw [if_neg (by have := H1.out; omega), if_neg (by rw [HN.out]; omega), if_neg (by have := H2.out; omega), if_neg (by rw [HG.out]; omega), HG.out, HN.out, hr]
      have HD := Lib.hid hdec
      have HR := Lib.hid hr
      clear hr hdec HN HG
      go_wp2_with fail
      clear p0
      go_loopw [7, 8] (fun av iv wr => ∃ (c a : Nat) (acc : List (List I4)) (fv : Value), (c : Int) ≤ n ∧ a ≤ bs.length ∧ acc.length = c ∧ av = .int .i64 (a : Int) ∧ iv = .int .i64 (c : Int) ∧ DR w wr (.slice (some ⟨gb, ob, none⟩) bs.length cap) bs g fv ∧ PRow wr (w.heap.size + 2) fv acc ∧ funcsA g n bs (n.toNat - c) a acc = r) (fun _ iv _ => n.toNat - (intOf iv).toNat)
      case atStart => exact ⟨0, 2, [], .slice none 0 0, by omega, by omega, rfl, rfl, rfl, D3.out, PRow.nil _ _, HR.out⟩
      case round =>
        obtain ⟨c, a, acc, fv, hcn, ha, hacc, rfl, rfl, hd, hp, hr⟩ := hrel
        have DD := Lib.hid hd
        have PP := Lib.hid hp
        have RR := Lib.hid hr
        have HC := Lib.hid hacc
        clear hd hp hr hacc D3
        by_cases hlt : (c : Int) < n
        · obtain ⟨k, hk⟩ : ∃ k, n.toNat - c = k + 1 := ⟨n.toNat - c - 1, by omega⟩
          have HK := Lib.hid hk
          clear hk
          by_cases hend : a < bs.length
          · have t1 : decide (bs.length ≤ a) = false := by simp; omega
            have HEND := Lib.hid hend
            obtain ⟨g', o', e1, -, -, hc, s1, s2⟩ := DD.out.b.at a hend
            cases e1
            obtain ⟨s, hs⟩ : ∃ n, bs.getD a 0 = n := ⟨_, rfl⟩
            rw [hs] at hc s1 s2
            have HS := Lib.hid hs
            have q1 : (a : Int) < (bs.length : Int) := by omega
            have q2 : (0 : Int) ≤ (a : Int) := by omega
            clear hs hend
            by_cases hs1 : s < 1
            · have HE : decD bs = .error a := by
                rw [HD.out, ← RR.out, HK.out, funcsA, if_neg (by have := HEND.out; omega), if_pos (by rw [HS.out]; omega)]
                rfl
              have HEH := Lib.hid HE
              clear HE
              go_upto_region 20 with fail
              clear hc
              go_wp2_with fail
              refine (bad_any _ _).mono ?_
              rintro e w9 ⟨rfl, hx9⟩
              have D9 := Lib.hid (DD.out.ex hx9)
              clear hx9
              have c0 := D9.out.r.cell 0
              have c1 := D9.out.r.cell 1
              have f0 := D9.out.r.soft 0
              have f1 := D9.out.r.soft 1
              go_wp2_with fail
              exact rfin_bad ⟨HEH.out,rfl⟩ _ rfl rfl rfl D9.out.r D9.out.x
            by_cases hs2 : 64 < s
            · have HE : decD bs = .error a := by
                rw [HD.out, ← RR.out, HK.out, funcsA, if_neg (by have := HEND.out; omega), if_pos (by rw [HS.out]; omega)]
                rfl
              have HEH := Lib.hid HE
              clear HE
              have hs1' : 1 ≤ s := by omega
              clear hs1
              go_upto_region 20 with fail
              clear hc
              go_wp2_with fail
              refine (bad_any _ _).mono ?_
              rintro e w9 ⟨rfl, hx9⟩
              have D9 := Lib.hid (DD.out.ex hx9)
              clear hx9
              have c0 := D9.out.r.cell 0
              have c1 := D9.out.r.cell 1
              have f0 := D9.out.r.soft 0
              have f1 := D9.out.r.soft 1
              go_wp2_with fail
              exact rfin_bad ⟨HEH.out,rfl⟩ _ rfl rfl rfl D9.out.r D9.out.x
            have s3 : 1 ≤ s := by omega
            have s4 : s ≤ 64 := by omega
            clear hs1 hs2
            go_upto_region 22 with fail
            clear hc
            rw [show ((a : Int) + 1) = ((a + 1 : Nat) : Int) by omega]
            have hz : w.heap.size + 2 ≤ wr.heap.size := by have := DD.out.p.lt; omega
            have P6 : Hid (∀ W', Chg (fun i => wr.heap.size ≤ i) wr W' → PRow W' (w.heap.size + 2) fv acc) := Lib.hid (fun W' hW' => PP.out.chg hW' (fun i hi hi2 hF => by omega))
            obtain ⟨fbk, hfb⟩ : ∃ f, wr.heap.size = f := ⟨_, rfl⟩
            have hfz : fbk ≤ wr.heap.size := by omega
            rw [hfb] at P6 hz
            have HFB := Lib.hid hfb
            clear hfb
            go_wp2_with fail
            have HFV : Hid (∀ i, fv.ownBlock = some i → i < fbk) := Lib.hid (fun i hi => by
              obtain ⟨lvs, k1, k2, k3⟩ := PP.out
              have := (row_base k2 i hi).2
              rw [← HFB.out]
              exact this)
            go_loopw [7, 10, 11] (fun av lv iv wr2 => ∃ (j a' : Nat) (l : List I4), (j : Int) ≤ s ∧ a' ≤ bs.length ∧ l.length = j ∧ av = .int .i64 (a' : Int) ∧ iv = .int .i64 (j : Int) ∧ fbk ≤ wr2.heap.size ∧ DR w wr2 (.slice (some ⟨gb, ob, none⟩) bs.length cap) bs g fv ∧ (∀ W', Chg (fun i => fbk ≤ i) wr2 W' → PRow W' (w.heap.size + 2) fv acc) ∧ wr2.ownsRow fbk 45 4 lv l.length (cells4 l) ∧ instsA g n s bs (s.toNat - j) a' l = instsA g n s bs s.toNat (a + 1) []) (fun _ _ iv _ => s.toNat - (intOf iv).toNat)
            case atStart => exact ⟨0, a + 1, [], by omega, by have := HEND.out; omega, rfl, rfl, rfl, hfz, DD.out, P6.out, World.ownsRow_nil _ _ _ _, rfl⟩
            case round =>
              obtain ⟨j, a', l, hj, ha', hl, rfl, rfl, hfz2, hd7, hp7, hi7, hr7⟩ := hrel
              have D7 := Lib.hid hd7
              have P7 := Lib.hid hp7
              have I7 := Lib.hid hi7
              have R7 := Lib.hid hr7
              have L7 := Lib.hid hl
              clear hd7 hp7 hi7 hr7 hl P6
              by_cases hlt2 : (j : Int) < s
              · obtain ⟨k2, hk2⟩ : ∃ k2, s.toNat - j = k2 + 1 := ⟨s.toNat - j - 1, by omega⟩
                have HK2 := Lib.hid hk2
                clear hk2
                have HLV : Hid (∀ q, u10.ownBlock = some q → q < wr.heap.size) := Lib.hid (fun q hq => (row_base I7.out q hq).2)
                go_upto_region 27 with fail
                have x8 := Ex.made wr (.cells #[.int .i64 0, .int .i64 0, .int .i64 0, .int .i64 0] 3)
                have b8 := Box.fresh wr #[.int .i64 0, .int .i64 0, .int .i64 0, .int .i64 0] 3
                rw [← vCells_zero bs a'] at b8
                have D8 := Lib.hid (D7.out.ex x8)
                have P8 : Hid (∀ W', Chg (fun i => fbk ≤ i) (wr.alloc (.cells #[.int .i64 0, .int .i64 0, .int .i64 0, .int .i64 0] 3)) W' → PRow W' (w.heap.size + 2) fv acc) := Lib.hid (fun W' hW' => P7.out W' ((x8.chg _).trans hW' (fun _ _ h => h)))
                have I8 := Lib.hid (row_chg I7.out (x8.chg (fun _ => False)) (fun _ _ h => h))
                have B8 := Lib.hid b8
                have hz8 : wr.heap.size < (wr.alloc (.cells #[.int .i64 0, .int .i64 0, .int .i64 0, .int .i64 0] 3)).heap.size := b8.lt
                obtain ⟨pb, hpb⟩ : ∃ f, wr.heap.size = f := ⟨_, rfl⟩
                obtain ⟨W8, hW8⟩ : ∃ W8, W8 = wr.alloc (.cells (vCells bs a' 0) 3) := ⟨_, rfl⟩
                rw [vCells_zero bs a'] at hW8
                rw [vCells_zero bs a'] at B8
                rw [← hW8] at D8 P8 I8 B8 hz8 ⊢
                rw [hpb] at HLV B8 hz8 hfz2 ⊢
                rw [← vCells_zero bs a'] at B8
                clear hpb hW8 x8 b8 D7 P7 I7
                go_wp2_with fail
                go_loopw [13] (fun kv wr3 => ∃ kk : Nat, kk ≤ 4 ∧ kv = .int .i64 (kk : Int) ∧ a' + kk ≤ bs.length ∧ pb < wr3.heap.size ∧ DR w wr3 (.slice (some ⟨gb, ob, none⟩) bs.length cap) bs g fv ∧ (∀ W', Chg (fun i => fbk ≤ i) wr3 W' → PRow W' (w.heap.size + 2) fv acc) ∧ wr3.ownsRow fbk 45 4 u10 l.length (cells4 l) ∧ Box wr3 pb (vCells bs a' kk) 3 ∧ instF g n s bs a' (4 - kk) kk = instD g n s bs a') (fun kv _ => 4 - (intOf kv).toNat)
                case atStart => exact ⟨0, by omega, rfl, ha', hz8, D8.out, P8.out, I8.out, B8.out, rfl⟩
                case round =>
                  obtain ⟨kk, hkk, rfl, hak, hpz, hd9, hp9, hi9, hb9, hf9⟩ := hrel
                  have DK := Lib.hid hd9
                  have PK := Lib.hid hp9
                  have IK := Lib.hid hi9
                  have BK := Lib.hid hb9
                  have FK := Lib.hid hf9
                  clear hd9 hp9 hi9 hb9 hf9 D8 P8 I8 B8 hz8
                  by_cases hk4 : kk < 4
                  · have hk4' : (kk : Int) < 4 := by omega
                    by_cases he : bs.length ≤ a' + kk
                    · have he2 : (bs.length : Int) ≤ (a' : Int) + (kk : Int) := by omega
                      have HE : decD bs = .error bs.length := by
                        have hid := FK.out
                        obtain ⟨f, hf⟩ : ∃ f, 4 - kk = f + 1 := ⟨3 - kk, by omega⟩
                        rw [hf, instF_end he] at hid
                        rw [HD.out, ← RR.out, HK.out, funcsA, if_neg (by have := HEND.out; omega), if_neg (by rw [HS.out]; omega), HS.out, ← R7.out, HK2.out, instsA, ← hid]
                        rfl
                      have HEH := Lib.hid HE
                      clear HE he
                      go_wp2_with fail
                      refine (bad_any _ _).mono ?_
                      rintro e w9 ⟨rfl, hx9⟩
                      have D9 := Lib.hid (DK.out.ex hx9)
                      clear hx9
                      have c0 := D9.out.r.cell 0
                      have c1 := D9.out.r.cell 1
                      have f0 := D9.out.r.soft 0
                      have f1 := D9.out.r.soft 1
                      go_wp2_with fail
                      exact rfin_bad ⟨HEH.out,rfl⟩ _ rfl rfl rfl D9.out.r D9.out.x
                    · obtain ⟨g', o', e1, -, -, hc, x1', x2'⟩ := DK.out.b.at (a' + kk) (by omega)
                      cases e1
                      obtain ⟨x, hx⟩ : ∃ n, bs.getD (a' + kk) 0 = n := ⟨_, rfl⟩
                      rw [hx] at hc x1' x2'
                      have HX := Lib.hid hx
                      have HNE := Lib.hid he
                      have q3 : (a' : Int) + (kk : Int) < (bs.length : Int) := by omega
                      have v0 : wr.cell? ⟨pb, kk, none⟩ = some (.int .i64 0) := by rw [BK.out.cell kk]; exact vCells_free bs a' kk hk4
                      have vf := BK.out.soft kk
                      rw [show ob + (a' + kk) = ob + (a' + kk) from rfl] at hc
                      clear hx he
                      go_upto_region 33 with fail
                      have C10 : Chg (fun i => i = pb) wr (wr.setCell ⟨pb, kk, none⟩ (.int .i64 x)) := Chg.cell (F := fun i => i = pb) wr ⟨pb, kk, none⟩ _ rfl
                      have B10 : Hid (Box (wr.setCell ⟨pb, kk, none⟩ (.int .i64 x)) pb (vCells bs a' (kk + 1)) 3) := Lib.hid (by
                        have := BK.out.put kk (.int .i64 x)
                        rw [← vCells_put bs a' kk hk4, show byt bs (a' + kk) = x from HX.out]
                        exact this)
                      have D10 := Lib.hid (DK.out.chg gl C10 (fun i hi => by subst hi; omega))
                      have P10 : Hid (∀ W', Chg (fun i => fbk ≤ i) (wr.setCell ⟨pb, kk, none⟩ (.int .i64 x)) W' → PRow W' (w.heap.size + 2) fv acc) := Lib.hid (fun W' hW' => PK.out W' ((C10.weak (G := fun i => fbk ≤ i) (fun i _ h => by omega)).trans hW' (fun _ _ h => h)))
                      have I10 := Lib.hid (row_chg IK.out C10 (fun q hq => by have := HLV.out q hq; omega))
                      obtain ⟨Y, hY⟩ : ∃ Y, Y = wr.setCell ⟨pb, kk, none⟩ (.int .i64 x) := ⟨_, rfl⟩
                      rw [← hY] at B10 D10 P10 I10 ⊢
                      clear hY C10 hc v0 vf DK PK IK BK
                      obtain ⟨v0', v1', v2', v3'⟩ := vCells_at bs a' kk
                      obtain ⟨⟨y0, y1, y2, y3⟩, hxi⟩ : ∃ x, instAt bs a' kk = x := ⟨_, rfl⟩
                      rw [hxi] at v0' v1' v2' v3'
                      have HXI := Lib.hid hxi
                      have z0 : Y.cell? ⟨pb, 0, none⟩ = some (.int .i64 y0) := by rw [B10.out.cell 0]; exact v0'
                      have z1 : Y.cell? ⟨pb, 1, none⟩ = some (.int .i64 y1) := by rw [B10.out.cell 1]; exact v1'
                      have z2 : Y.cell? ⟨pb, 2, none⟩ = some (.int .i64 y2) := by rw [B10.out.cell 2]; exact v2'
                      have z3 : Y.cell? ⟨pb, 3, none⟩ = some (.int .i64 y3) := by rw [B10.out.cell 3]; exact v3'
                      have zl := B10.out.lt
                      clear v0' v1' v2' v3' hxi
                      refine wp_region_held_drew (S := fun w' => w'.cell? ⟨pb, 0, none⟩ = some (.int .i64 y0) ∧ w'.cell? ⟨pb, 1, none⟩ = some (.int .i64 y1) ∧ w'.cell? ⟨pb, 2, none⟩ = some (.int .i64 y2) ∧ w'.cell? ⟨pb, 3, none⟩ = some (.int .i64 y3)) (by kernel_rfl) ?_ (fun hHeld => ?_)
                      · go_keep
                      refine wpAnyH_take (i := 0) (v := ?_) rfl (by kernel_rfl) (by kernel_rfl) (by kernel_rfl) (fun _ _ _ h => h) (Or.inl ⟨by rfl, ?_⟩) (by assumption) ?_
                      rotate_left
                      · intro w hSw; (try dsimp only at hSw); go_simp; try with_reducible rfl
                      try simp only [Act.put, List.setIfInBounds_toArray, List.set_cons_zero, List.set_cons_succ]
                      refine wpAnyH_take (i := 1) (v := ?_) rfl (by kernel_rfl) (by kernel_rfl) (by kernel_rfl) (fun _ _ _ h => h) (Or.inl ⟨by rfl, ?_⟩) (by assumption) ?_
                      rotate_left
                      · intro w hSw; (try dsimp only at hSw); go_simp; try with_reducible rfl
                      try simp only [Act.put, List.setIfInBounds_toArray, List.set_cons_zero, List.set_cons_succ]
                      refine wpAnyH_take (i := 2) (v := ?_) rfl (by kernel_rfl) (by kernel_rfl) (by kernel_rfl) (fun _ _ _ h => h) (Or.inl ⟨by rfl, ?_⟩) (by assumption) ?_
                      rotate_left
                      · intro w hSw; (try dsimp only at hSw); go_simp; try with_reducible rfl
                      try simp only [Act.put, List.setIfInBounds_toArray, List.set_cons_zero, List.set_cons_succ]
                      refine wpAnyH_take (i := 3) (v := ?_) rfl (by kernel_rfl) (by kernel_rfl) (by kernel_rfl) (fun _ _ _ h => h) (Or.inl ⟨by rfl, ?_⟩) (by assumption) ?_
                      rotate_left
                      · intro w hSw; (try dsimp only at hSw); go_simp; try with_reducible rfl
                      try simp only [Act.put, List.setIfInBounds_toArray, List.set_cons_zero, List.set_cons_succ]
                      refine wpAnyH_take (i := 4) (v := ?_) rfl (by kernel_rfl) (by kernel_rfl) (by kernel_rfl) (fun _ _ _ h => h) (Or.inl ⟨by rfl, ?_⟩) (by assumption) ?_
                      rotate_left
                      · intro w hSw; (try dsimp only at hSw); go_simp; try with_reducible rfl
                      try simp only [Act.put, List.setIfInBounds_toArray, List.set_cons_zero, List.set_cons_succ]
                      refine wpAnyH_take (i := 5) (v := ?_) rfl (by kernel_rfl) (by kernel_rfl) (by kernel_rfl) (fun _ _ _ h => h) (Or.inl ⟨by rfl, ?_⟩) (by assumption) ?_
                      rotate_left
                      · intro w hSw; (try dsimp only at hSw); go_simp; try with_reducible rfl
                      try simp only [Act.put, List.setIfInBounds_toArray, List.set_cons_zero, List.set_cons_succ]
                      refine wpAnyH_take (i := 6) (v := ?_) rfl (by kernel_rfl) (by kernel_rfl) (by kernel_rfl) (fun _ _ _ h => h) (Or.inl ⟨by rfl, ?_⟩) (by assumption) ?_
                      rotate_left
                      · intro w hSw; (try dsimp only at hSw); go_simp; try with_reducible rfl
                      try simp only [Act.put, List.setIfInBounds_toArray, List.set_cons_zero, List.set_cons_succ]
                      refine wpAnyH_take (i := 7) (v := ?_) rfl (by kernel_rfl) (by kernel_rfl) (by kernel_rfl) (fun _ _ _ h => h) (Or.inl ⟨by rfl, ?_⟩) (by assumption) ?_
                      rotate_left
                      · intro w hSw; (try dsimp only at hSw); go_simp; try with_reducible rfl
                      try simp only [Act.put, List.setIfInBounds_toArray, List.set_cons_zero, List.set_cons_succ]
                      refine wpAnyH_take (i := 8) (v := ?_) rfl (by kernel_rfl) (by kernel_rfl) (by kernel_rfl) (fun _ _ _ h => h) (Or.inl ⟨by rfl, ?_⟩) (by assumption) ?_
                      rotate_left
                      · intro w hSw; (try dsimp only at hSw); go_simp; try with_reducible rfl
                      try simp only [Act.put, List.setIfInBounds_toArray, List.set_cons_zero, List.set_cons_succ]
                      refine wpAnyH_take (i := 9) (v := ?_) rfl (by kernel_rfl) (by kernel_rfl) (by kernel_rfl) (fun _ _ _ h => h) (Or.inl ⟨by rfl, ?_⟩) (by assumption) ?_
                      rotate_left
                      · intro w hSw; (try dsimp only at hSw); go_simp; try with_reducible rfl
                      try simp only [Act.put, List.setIfInBounds_toArray, List.set_cons_zero, List.set_cons_succ]
                      refine wpAnyH_take (i := 10) (v := ?_) rfl (by kernel_rfl) (by kernel_rfl) (by kernel_rfl) (fun _ _ _ h => h) (Or.inl ⟨by rfl, ?_⟩) (by assumption) ?_
                      rotate_left
                      · intro w hSw; (try dsimp only at hSw); go_simp; try with_reducible rfl
                      try simp only [Act.put, List.setIfInBounds_toArray, List.set_cons_zero, List.set_cons_succ]
                      refine wpAnyH_take (i := 11) (v := ?_) rfl (by kernel_rfl) (by kernel_rfl) (by kernel_rfl) (fun _ _ _ h => h) (Or.inl ⟨by rfl, ?_⟩) (by assumption) ?_
                      rotate_left
                      · intro w hSw; (try dsimp only at hSw); go_simp; try with_reducible rfl
                      try simp only [Act.put, List.setIfInBounds_toArray, List.set_cons_zero, List.set_cons_succ]
                      refine wpAnyH_take (i := 12) (v := ?_) rfl (by kernel_rfl) (by kernel_rfl) (by kernel_rfl) (fun _ _ _ h => h) (Or.inl ⟨by rfl, ?_⟩) (by assumption) ?_
                      rotate_left
                      · intro w hSw; (try dsimp only at hSw); go_simp; try with_reducible rfl
                      try simp only [Act.put, List.setIfInBounds_toArray, List.set_cons_zero, List.set_cons_succ]
                      refine wpAnyH_ready (rs := [13]) (by kernel_rfl) (by simp) ?_
                      refine AllReadyH.cons rfl (fun K hK => ?_) AllReadyH.nil
                      go_simp
                      refine hK.out _ _ ?_ (fun hHeld => ?_)
                      · go_keep
                      clear hK K
                      try simp only [Act.put, List.setIfInBounds_toArray, List.set_cons_zero, List.set_cons_succ]
                      refine wpAnyH_ready (rs := [14]) (by kernel_rfl) (by simp) ?_
                      refine AllReadyH.cons rfl (fun K hK => ?_) AllReadyH.nil
                      go_simp
                      refine hK.out _ _ ?_ (fun hHeld => ?_)
                      · go_keep
                      clear hK K
                      try simp only [Act.put, List.setIfInBounds_toArray, List.set_cons_zero, List.set_cons_succ]
                      refine wpAnyH_done (by kernel_rfl) ?_ _
                      have x11 : Ex Y (Y.alloc (.cells #[.int .i64 y0, .int .i64 y1, .int .i64 y2, .int .i64 y3] 45)).drew := (Ex.made _ _).trans (ex_drew _)
                      have N11 : Hid (Box (Y.alloc (.cells #[.int .i64 y0, .int .i64 y1, .int .i64 y2, .int .i64 y3] 45)).drew Y.heap.size #[.int .i64 y0, .int .i64 y1, .int .i64 y2, .int .i64 y3] 45) := Lib.hid ((Box.fresh _ _ _).ex (ex_drew _))
                      have D11 := Lib.hid (D10.out.ex x11)
                      have P11 : Hid (∀ W', Chg (fun i => fbk ≤ i) (Y.alloc (.cells #[.int .i64 y0, .int .i64 y1, .int .i64 y2, .int .i64 y3] 45)).drew W' → PRow W' (w.heap.size + 2) fv acc) := Lib.hid (fun W' hW' => P10.out W' ((x11.chg _).trans hW' (fun _ _ h => h)))
                      have I11 := Lib.hid (row_chg I10.out (x11.chg (fun _ => False)) (fun _ _ h => h))
                      have B11 := Lib.hid (B10.out.ex x11)
                      obtain ⟨nb, hnb⟩ : ∃ f, Y.heap.size = f := ⟨_, rfl⟩
                      rw [hnb] at N11 ⊢
                      obtain ⟨Z, hZ⟩ : ∃ Z, Z = (Y.alloc (.cells #[.int .i64 y0, .int .i64 y1, .int .i64 y2, .int .i64 y3] 45)).drew := ⟨_, rfl⟩
                      rw [← hZ] at N11 D11 P11 I11 B11 ⊢
                      clear hZ hnb x11 D10 P10 I10 B10 hHeld z0 z1 z2 z3 zl
                      have z0 := N11.out.cell 0
                      have z1 := N11.out.cell 1
                      have z2 := N11.out.cell 2
                      have z3 := N11.out.cell 3
                      have p0 : Z.cell? ⟨w.heap.size + 1, 0, none⟩ = some (.int .i64 g) := D11.out.p.cell 0
                      go_wp2_with fail
                      refine (rwrong_any Z (y0, y1, y2, y3) g n s).mono ?_
                      rintro e w5 ⟨rfl, hx5⟩
                      have D12 := Lib.hid (D11.out.ex hx5)
                      have P12 : Hid (∀ W', Chg (fun i => fbk ≤ i) w5 W' → PRow W' (w.heap.size + 2) fv acc) := Lib.hid (fun W' hW' => P11.out W' ((hx5.chg _).trans hW' (fun _ _ h => h)))
                      have I12 := Lib.hid (row_chg I11.out (hx5.chg (fun _ => False)) (fun _ _ h => h))
                      have B12 := Lib.hid (B11.out.ex hx5)
                      clear hx5 D11 P11 I11 B11 N11 z0 z1 z2 z3 p0
                      obtain ⟨rr, hrr⟩ : ∃ r, wrongI g n s (y0, y1, y2, y3) = r := ⟨_, rfl⟩
                      rw [hrr]
                      have HRR : Hid (wrongI g n s (instAt bs a' kk) = rr) := Lib.hid (by rw [HXI.out]; exact hrr)
                      clear hrr
                      by_cases hr1 : 0 ≤ rr
                      · by_cases hr2 : rr ≤ (kk : Int)
                        · have HE : decD bs = .error (a' + rr.toNat) := by
                            have hid := FK.out
                            obtain ⟨f, hf⟩ : ∃ f, 4 - kk = f + 1 := ⟨3 - kk, by omega⟩
                            rw [hf, instF_bad HNE.out HRR.out ⟨hr1, hr2⟩] at hid
                            rw [HD.out, ← RR.out, HK.out, funcsA, if_neg (by have := HEND.out; omega), if_neg (by rw [HS.out]; omega), HS.out, ← R7.out, HK2.out, instsA, ← hid]
                            rfl
                          have HEH := Lib.hid HE
                          have HPV : Hid ((a' : Int) + rr = ((a' + rr.toNat : Nat) : Int)) := Lib.hid (by omega)
                          clear HE
                          go_upto_region 36 with fail
                          go_wp2_with fail
                          refine (bad_any _ _).mono ?_
                          rintro e w9 ⟨rfl, hx9⟩
                          have D9 := Lib.hid (D12.out.ex hx9)
                          clear hx9
                          have c0 := D9.out.r.cell 0
                          have c1 := D9.out.r.cell 1
                          have f0 := D9.out.r.soft 0
                          have f1 := D9.out.r.soft 1
                          go_wp2_with fail
                          exact rfin_bad ⟨HEH.out,HPV.out⟩ _ rfl rfl rfl D9.out.r D9.out.x
                        · have hr2' : (kk : Int) < rr := by omega
                          clear hr2
                          have F12 : Hid (instF g n s bs a' (4 - (kk + 1)) (kk + 1) = instD g n s bs a') := Lib.hid (by
                            have hid := FK.out
                            obtain ⟨f, hf⟩ : ∃ f, 4 - kk = f + 1 := ⟨3 - kk, by omega⟩
                            rw [hf, instF_go HNE.out HRR.out (by omega)] at hid
                            rw [show 4 - (kk + 1) = f by omega]
                            exact hid)
                          go_wp2_with fail
                          go_roundw
                          case rel =>
                            have HK5 : a' + (kk + 1) ≤ bs.length := by have := HNE.out; omega
                            have HK6 : kk + 1 ≤ 4 := by omega
                            repeat apply Exists.intro
                            refine ⟨⟨kk + 1, HK6, ?_, HK5, B12.out.lt, D12.out, P12.out, I12.out, B12.out, F12.out⟩, ?_⟩
                            rotate_left 1
                            · repeat' (first | exact rfl | apply And.intro)
                            · go_num
                          case measure => simp [intOf]; omega
                      · have hr1' : rr < 0 := by omega
                        clear hr1
                        have F12 : Hid (instF g n s bs a' (4 - (kk + 1)) (kk + 1) = instD g n s bs a') := Lib.hid (by
                          have hid := FK.out
                          obtain ⟨f, hf⟩ : ∃ f, 4 - kk = f + 1 := ⟨3 - kk, by omega⟩
                          rw [hf, instF_go HNE.out HRR.out (by omega)] at hid
                          rw [show 4 - (kk + 1) = f by omega]
                          exact hid)
                        go_wp2_with fail
                        go_roundw
                        case rel =>
                          have HK5 : a' + (kk + 1) ≤ bs.length := by have := HNE.out; omega
                          have HK6 : kk + 1 ≤ 4 := by omega
                          repeat apply Exists.intro
                          refine ⟨⟨kk + 1, HK6, ?_, HK5, B12.out.lt, D12.out, P12.out, I12.out, B12.out, F12.out⟩, ?_⟩
                          rotate_left 1
                          · repeat' (first | exact rfl | apply And.intro)
                          · go_num
                        case measure => simp [intOf]; omega
                  · have hk4' : (4 : Int) ≤ (kk : Int) := by omega
                    have hid : instD g n s bs a' = .ok (instAt bs a' 3) := by
                      rw [← FK.out, show 4 - kk = 0 by omega]
                      rfl
                    have hb4 := BK.out
                    rw [show kk = 3 + 1 by omega] at hb4
                    obtain ⟨v0', v1', v2', v3'⟩ := vCells_at bs a' 3
                    obtain ⟨⟨y0, y1, y2, y3⟩, hxi⟩ : ∃ x, instAt bs a' 3 = x := ⟨_, rfl⟩
                    rw [hxi] at v0' v1' v2' v3' hid
                    have HZC : Hid ((vCells bs a' (3 + 1))[0]? = some (.int .i64 y0) ∧ (vCells bs a' (3 + 1))[1]? = some (.int .i64 y1) ∧ (vCells bs a' (3 + 1))[2]? = some (.int .i64 y2) ∧ (vCells bs a' (3 + 1))[3]? = some (.int .i64 y3)) := Lib.hid ⟨v0', v1', v2', v3'⟩
                    have z0 : wr.cell? ⟨pb, 0, none⟩ = some (.int .i64 y0) := by rw [hb4.cell 0]; exact v0'
                    have z1 : wr.cell? ⟨pb, 1, none⟩ = some (.int .i64 y1) := by rw [hb4.cell 1]; exact v1'
                    have z2 : wr.cell? ⟨pb, 2, none⟩ = some (.int .i64 y2) := by rw [hb4.cell 2]; exact v2'
                    have z3 : wr.cell? ⟨pb, 3, none⟩ = some (.int .i64 y3) := by rw [hb4.cell 3]; exact v3'
                    have B13 := Lib.hid hb4
                    have HI4 := Lib.hid hid
                    clear v0' v1' v2' v3' hxi hid hb4 BK FK
                    go_upto_region 37 with fail
                    have hll : l.length ≤ 64 := by have := L7.out; omega
                    obtain ⟨i0, hi, hz0, hz1, hz2⟩ := info_parts info_inst
                    refine wp_region_held_drew (S := fun w' => w'.cell? ⟨pb, 0, none⟩ = some (.int .i64 y0) ∧ w'.cell? ⟨pb, 1, none⟩ = some (.int .i64 y1) ∧ w'.cell? ⟨pb, 2, none⟩ = some (.int .i64 y2) ∧ w'.cell? ⟨pb, 3, none⟩ = some (.int .i64 y3)) (by kernel_rfl) ?_ (fun hHeld => ?_)
                    · go_keep
                    refine wpAnyH_take (i := 0) (v := ?_) rfl (by kernel_rfl) (by kernel_rfl) (by kernel_rfl) (fun _ _ _ h => h) (Or.inl ⟨by rfl, ?_⟩) (by assumption) ?_
                    rotate_left
                    · intro w hSw; (try dsimp only at hSw); go_simp; try with_reducible rfl
                    try simp only [Act.put, List.setIfInBounds_toArray, List.set_cons_zero, List.set_cons_succ]
                    refine wpAnyH_take (i := 1) (v := ?_) rfl (by kernel_rfl) (by kernel_rfl) (by kernel_rfl) (fun _ _ _ h => h) (Or.inl ⟨by rfl, ?_⟩) (by assumption) ?_
                    rotate_left
                    · intro w hSw; (try dsimp only at hSw); go_simp; try with_reducible rfl
                    try simp only [Act.put, List.setIfInBounds_toArray, List.set_cons_zero, List.set_cons_succ]
                    refine wpAnyH_take (i := 2) (v := ?_) rfl (by kernel_rfl) (by kernel_rfl) (by kernel_rfl) (fun _ _ _ h => h) (Or.inl ⟨by rfl, ?_⟩) (by assumption) ?_
                    rotate_left
                    · intro w hSw; (try dsimp only at hSw); go_simp; try with_reducible rfl
                    try simp only [Act.put, List.setIfInBounds_toArray, List.set_cons_zero, List.set_cons_succ]
                    refine wpAnyH_take (i := 3) (v := ?_) rfl (by kernel_rfl) (by kernel_rfl) (by kernel_rfl) (fun _ _ _ h => h) (Or.inl ⟨by rfl, ?_⟩) (by assumption) ?_
                    rotate_left
                    · intro w hSw; (try dsimp only at hSw); go_simp; try with_reducible rfl
                    try simp only [Act.put, List.setIfInBounds_toArray, List.set_cons_zero, List.set_cons_succ]
                    refine wpAnyH_take (i := 4) (v := ?_) rfl (by kernel_rfl) (by kernel_rfl) (by kernel_rfl) (fun _ _ _ h => h) (Or.inl ⟨by rfl, ?_⟩) (by assumption) ?_
                    rotate_left
                    · intro w hSw; (try dsimp only at hSw); go_simp; try with_reducible rfl
                    try simp only [Act.put, List.setIfInBounds_toArray, List.set_cons_zero, List.set_cons_succ]
                    refine wpAnyH_take (i := 5) (v := ?_) rfl (by kernel_rfl) (by kernel_rfl) (by kernel_rfl) (fun _ _ _ h => h) (Or.inl ⟨by rfl, ?_⟩) (by assumption) ?_
                    rotate_left
                    · intro w hSw; (try dsimp only at hSw); go_simp; try with_reducible rfl
                    try simp only [Act.put, List.setIfInBounds_toArray, List.set_cons_zero, List.set_cons_succ]
                    refine wpAnyH_take (i := 6) (v := ?_) rfl (by kernel_rfl) (by kernel_rfl) (by kernel_rfl) (fun _ _ _ h => h) (Or.inl ⟨by rfl, ?_⟩) (by assumption) ?_
                    rotate_left
                    · intro w hSw; (try dsimp only at hSw); go_simp; try with_reducible rfl
                    try simp only [Act.put, List.setIfInBounds_toArray, List.set_cons_zero, List.set_cons_succ]
                    refine wpAnyH_take (i := 7) (v := ?_) rfl (by kernel_rfl) (by kernel_rfl) (by kernel_rfl) (fun _ _ _ h => h) (Or.inl ⟨by rfl, ?_⟩) (by assumption) ?_
                    rotate_left
                    · intro w hSw; (try dsimp only at hSw); go_simp; try with_reducible rfl
                    try simp only [Act.put, List.setIfInBounds_toArray, List.set_cons_zero, List.set_cons_succ]
                    refine wpAnyH_take (i := 8) (v := ?_) rfl (by kernel_rfl) (by kernel_rfl) (by kernel_rfl) (fun _ _ _ h => h) (Or.inl ⟨by rfl, ?_⟩) (by assumption) ?_
                    rotate_left
                    · intro w hSw; (try dsimp only at hSw); go_simp; try with_reducible rfl
                    try simp only [Act.put, List.setIfInBounds_toArray, List.set_cons_zero, List.set_cons_succ]
                    refine wpAnyH_take (i := 9) (v := ?_) rfl (by kernel_rfl) (by kernel_rfl) (by kernel_rfl) (fun _ _ _ h => h) (Or.inl ⟨by rfl, ?_⟩) (by assumption) ?_
                    rotate_left
                    · intro w hSw; (try dsimp only at hSw); go_simp; try with_reducible rfl
                    try simp only [Act.put, List.setIfInBounds_toArray, List.set_cons_zero, List.set_cons_succ]
                    refine wpAnyH_take (i := 10) (v := ?_) rfl (by kernel_rfl) (by kernel_rfl) (by kernel_rfl) (fun _ _ _ h => h) (Or.inl ⟨by rfl, ?_⟩) (by assumption) ?_
                    rotate_left
                    · intro w hSw; (try dsimp only at hSw); go_simp; try with_reducible rfl
                    try simp only [Act.put, List.setIfInBounds_toArray, List.set_cons_zero, List.set_cons_succ]
                    refine wpAnyH_take (i := 11) (v := ?_) rfl (by kernel_rfl) (by kernel_rfl) (by kernel_rfl) (fun _ _ _ h => h) (Or.inl ⟨by rfl, ?_⟩) (by assumption) ?_
                    rotate_left
                    · intro w hSw; (try dsimp only at hSw); go_simp; try with_reducible rfl
                    try simp only [Act.put, List.setIfInBounds_toArray, List.set_cons_zero, List.set_cons_succ]
                    refine wpAnyH_take (i := 12) (v := ?_) rfl (by kernel_rfl) (by kernel_rfl) (by kernel_rfl) (fun _ _ _ h => h) (Or.inl ⟨by rfl, ?_⟩) (by assumption) ?_
                    rotate_left
                    · intro w hSw; (try dsimp only at hSw); go_simp; try with_reducible rfl
                    try simp only [Act.put, List.setIfInBounds_toArray, List.set_cons_zero, List.set_cons_succ]
                    refine wpAnyH_take (i := 13) (v := ?_) rfl (by kernel_rfl) (by kernel_rfl) (by kernel_rfl) (fun _ _ _ h => h) (Or.inl ⟨by rfl, ?_⟩) (by assumption) ?_
                    rotate_left
                    · intro w hSw; (try dsimp only at hSw); go_simp; try with_reducible rfl
                    try simp only [Act.put, List.setIfInBounds_toArray, List.set_cons_zero, List.set_cons_succ]
                    refine wpAnyH_ready (rs := [14]) (by kernel_rfl) (by simp) ?_
                    refine AllReadyH.cons rfl (fun K hK => ?_) AllReadyH.nil
                    go_simp
                    refine hK.out _ _ ?_ (fun hHeld => ?_)
                    · go_keep
                    clear hK K
                    try simp only [Act.put, List.setIfInBounds_toArray, List.set_cons_zero, List.set_cons_succ]
                    refine wpAnyH_ready (rs := [15]) (by kernel_rfl) (by simp) ?_
                    refine AllReadyH.cons rfl (fun K hK => ?_) AllReadyH.nil
                    have x14 : Ex wr (wr.alloc (.cells #[.int .i64 y0, .int .i64 y1, .int .i64 y2, .int .i64 y3] 45)).drew := (Ex.made _ _).trans (ex_drew _)
                    have n14 : Box (wr.alloc (.cells #[.int .i64 y0, .int .i64 y1, .int .i64 y2, .int .i64 y3] 45)).drew wr.heap.size #[.int .i64 y0, .int .i64 y1, .int .i64 y2, .int .i64 y3] 45 := (Box.fresh _ _ _).ex (ex_drew _)
                    have i14 := row_chg IK.out (x14.chg (fun _ => False)) (fun _ _ h => h)
                    have hb14 : fbk ≤ (wr.alloc (.cells #[.int .i64 y0, .int .i64 y1, .int .i64 y2, .int .i64 y3] 45)).drew.heap.size := by have := x14.size; omega
                    refine step_append_lies _ rfl (.tmp 154) (.tmp 168) 30 rfl fbk 45 i0 (.agg #[.int .i64 0, .int .i64 0, .int .i64 0, .int .i64 0]) 4 32 Try.underlying30 hi hz0 hz1 hz2 rfl (by decide) _ _ _ rfl i14 ⟨wr.heap.size, 0, none⟩ 1 1 [.int .i64 y0, .int .i64 y1, .int .i64 y2, .int .i64 y3] rfl rfl (fun j u hj => by rw [show (⟨wr.heap.size, 0, none⟩ : Addr).add j = ⟨wr.heap.size, j, none⟩ by simp [Addr.add]; exact fun h => h.symm, n14.cell j]; simpa using hj) (by intro u hu; simp at hu; rcases hu with rfl | rfl | rfl | rfl <;> rfl) (by omega) (by unfold maxLen; omega) (by omega) hb14 _ rfl ?_
                    intro g' cap' w6 hown hgrow hor hlt3
                    have HO6 := Lib.hid hown
                    have hzz := x14.size
                    have HB8 := fun i hi => row_base i14 i hi
                    have hor' : g' < w6.heap.size ∧ fbk ≤ g' := ⟨hlt3, by
                      rcases hor with h | h
                      · exact (HB8 _ h).1
                      · omega⟩
                    have C6 : Hid (Chg (fun i => u10.ownBlock = some i) wr w6) := Lib.hid (Chg.trans (x14.chg (fun i => u10.ownBlock = some i)) (Chg.grown (F := fun i => u10.ownBlock = some i) hgrow (fun i hi => hi)) (fun _ _ h => h))
                    have hb6 : Box w6 pb (vCells bs a' (3 + 1)) 3 := B13.out.chg C6.out (fun h => by have := HLV.out _ h; omega)
                    have hk6 : w6.cell? ⟨pb, 0, none⟩ = some (.int .i64 y0) ∧ w6.cell? ⟨pb, 1, none⟩ = some (.int .i64 y1) ∧ w6.cell? ⟨pb, 2, none⟩ = some (.int .i64 y2) ∧ w6.cell? ⟨pb, 3, none⟩ = some (.int .i64 y3) := by
                      have e := HZC.out
                      exact ⟨by rw [hb6.cell 0]; exact e.1, by rw [hb6.cell 1]; exact e.2.1, by rw [hb6.cell 2]; exact e.2.2.1, by rw [hb6.cell 3]; exact e.2.2.2⟩
                    clear hown hgrow hor hi hz0 hz1 hz2 i14 n14 x14 hb14
                    refine hK.out _ _ hk6 (fun hHeld => ?_)
                    clear hK K
                    try simp only [Act.put, List.setIfInBounds_toArray, List.set_cons_zero, List.set_cons_succ]
                    refine wpAnyH_ready (rs := [16]) (by kernel_rfl) (by simp) ?_
                    refine AllReadyH.cons rfl (fun K hK => ?_) AllReadyH.nil
                    go_simp
                    refine hK.out _ _ ?_ (fun hHeld => ?_)
                    · go_keep
                    clear hK K
                    try simp only [Act.put, List.setIfInBounds_toArray, List.set_cons_zero, List.set_cons_succ]
                    refine wpAnyH_done (by kernel_rfl) ?_ _
                    clear z0 z1 z2 z3 hHeld hk6 hb6
                    have R8 : Hid (instsA g n s bs k2 (a' + 4) (l ++ [(y0, y1, y2, y3)]) = instsA g n s bs s.toNat (a + 1) []) := Lib.hid (by
                      rw [← R7.out, HK2.out, instsA, HI4.out])
                    have ha4 : a' + 4 ≤ bs.length := by omega
                    have hs8 := C6.out.size
                    have HBU : Hid (∀ i, u10.ownBlock = some i → fbk ≤ i) := Lib.hid (fun i hi => (HB8 i hi).1)
                    have D15 := Lib.hid (DK.out.chg gl C6.out (fun i hi => by have := HBU.out i hi; omega))
                    have P15 : Hid (∀ W', Chg (fun i => fbk ≤ i) w6 W' → PRow W' (w.heap.size + 2) fv acc) := Lib.hid (fun W' hW' => PK.out W' ((C6.out.weak (G := fun i => fbk ≤ i) (fun i _ h => HBU.out i h)).trans hW' (fun _ _ h => h)))
                    have I15 : Hid (w6.ownsRow fbk 45 4 (.slice (some ⟨g', 0, none⟩) (l.length + 1) cap') (l ++ [(y0, y1, y2, y3)]).length (cells4 (l ++ [(y0, y1, y2, y3)]))) := Lib.hid (by
                      have := HO6.out
                      rw [cells4_append, cells4_one, List.length_append]
                      exact this)
                    have F6 : fbk ≤ w6.heap.size := by omega
                    have L6 : Hid ((l ++ [(y0, y1, y2, y3)]).length = j + 1) := Lib.hid (by rw [List.length_append, L7.out]; rfl)
                    clear DK PK IK HB8 HO6 hzz
                    go_wp2_with fail
                    go_roundw
                    case rel =>
                      have H1' : ((j + 1 : Nat) : Int) ≤ s := by omega
                      have H2' : instsA g n s bs (s.toNat - (j + 1)) (a' + 4) (l ++ [(y0, y1, y2, y3)]) = instsA g n s bs s.toNat (a + 1) [] := by
                        rw [show s.toNat - (j + 1) = k2 by have := HK2.out; omega]
                        exact R8.out
                      repeat apply Exists.intro
                      refine ⟨⟨j + 1, a' + 4, l ++ [(y0, y1, y2, y3)], H1', ha4, L6.out, ?_, ?_, F6, D15.out, P15.out, I15.out, H2'⟩, ?_⟩
                      rotate_left 2
                      · repeat' (first | exact rfl | apply And.intro)
                      · go_num
                      · go_num
                    case measure => simp [intOf]; omega
              · have hje : (j : Int) = s := by omega
                have HJ := Lib.hid hje
                have hj2 : ¬ (j : Int) < s := hlt2
                clear hje
                have hal : acc.length ≤ 16 := by have := HC.out; omega
                have FR := Lib.hid (funcsA_step RR.out HK.out HEND.out HS.out s3 s4 R7.out HJ.out)
                obtain ⟨sa, sn, sc, rfl⟩ : ∃ a n c, u10 = .slice a n c := by
                  rcases row_shape I7.out with ⟨h, -⟩ | ⟨g, cap, h, -⟩
                  · exact ⟨_, _, _, h⟩
                  · exact ⟨_, _, _, h⟩
                have pF : wr.cell? ⟨w.heap.size + 1, 1, none⟩ = some fv := D7.out.p.cell 1
                have pS := D7.out.p.soft 1
                go_upto_region 39 with fail
                obtain ⟨lvs, k1, k2, k3⟩ := P7.out wr (Chg.refl _ _)
                have K1 := Lib.hid k1
                have K2 := Lib.hid k2
                have K3 := Lib.hid k3
                clear k1 k2 k3
                obtain ⟨i0, hi, hz0, hz1, hz2⟩ := info_parts info_row
                go_wp2_with (at_builtin; refine wpList_append_mine _ rfl (.tmp 173) (.tmp 175) 22 rfl (w.heap.size + 2) 30 i0 (.slice none 0 0) 1 24 Try.underlying22 hi hz0 hz1 hz2 rfl (by decide) _ _ _ rfl (K2.out.alloc _) ⟨wr.heap.size, 0, none⟩ 1 1 [.slice sa sn sc] rfl rfl (one_new _ _ _) (one_cell rfl) (by unfold maxLen; omega) (by omega) (row_alloc_base wr _ (by omega)) (by omega) ?_)
                intro g' cap' w6 hown hgrow hor hbg hlt3 hc1 hc2
                have C6 : Hid (Chg (fun i => fv.ownBlock = some i) wr w6) := Lib.hid (Chg.trans ((Ex.made wr _).chg (fun i => fv.ownBlock = some i)) (Chg.grown (F := fun i => fv.ownBlock = some i) hgrow (fun i hi => hi)) (fun _ _ h => h))
                have hor' : fv.ownBlock = some g' ∨ wr.heap.size ≤ g' := by
                  rcases hor with h | h
                  · exact .inl h
                  · exact .inr (by first | omega | (simp at h; omega))
                have iR : IRow wr (w.heap.size + 2) fv.ownBlock (.slice sa sn sc) l := ⟨row_weak' I7.out (by omega), fun q hq e => by
                  have h1 := (row_base I7.out q hq).1
                  have h2 := HFV.out q e
                  omega⟩
                have P9 := Lib.hid (PRow.snoc2 K1.out K2.out K3.out iR hown C6.out hor')
                have HF := fun i hi => row_base K2.out i hi
                have D9 := Lib.hid (D7.out.chg gl C6.out (fun i hi => (HF i hi).1))
                clear hown hgrow hor hor' hi hz0 hz1 hz2 pF pS K1 K2 K3 iR
                have pF : w6.cell? ⟨w.heap.size + 1, 1, none⟩ = some fv := D9.out.p.cell 1
                have pS := D9.out.p.soft 1
                go_wp2_with fail
                go_roundw
                case rel =>
                  have d := D9.out
                  have H1' : ((c + 1 : Nat) : Int) ≤ n := by omega
                  have H3' : (acc ++ [l]).length = c + 1 := by have := HC.out; simp; omega
                  have H4' : DR w (w6.setCell ⟨w.heap.size + 1, 1, none⟩ (.slice (some ⟨g', 0, none⟩) (acc.length + 1) cap')) (.slice (some ⟨gb, ob, none⟩) bs.length cap) bs g (.slice (some ⟨g', 0, none⟩) (acc.length + 1) cap') :=
                    ⟨d.r.put_other (by omega) 1 _, d.p.put 1 _, d.b.chg (Chg.cell (F := fun i => i = w.heap.size + 1) w6 ⟨w.heap.size + 1, 1, none⟩ _ rfl) (by omega), Below.trans d.x ((Chg.cell (F := fun i => i = w.heap.size + 1) w6 ⟨w.heap.size + 1, 1, none⟩ _ rfl).below d.x.size (fun i hi => by subst hi; omega))⟩
                  have H5' := P9.out.chg (Chg.cell (F := fun i => i = w.heap.size + 1) w6 ⟨w.heap.size + 1, 1, none⟩ (.slice (some ⟨g', 0, none⟩) (acc.length + 1) cap') rfl) (fun i hi _ e => by omega)
                  have H2' : funcsA g n bs (n.toNat - (c + 1)) a' (acc ++ [l]) = r := by
                    rw [show n.toNat - (c + 1) = k by have := HK.out; omega]
                    exact FR.out
                  exact ⟨c + 1, a', acc ++ [l], .slice (some ⟨g', 0, none⟩) (acc.length + 1) cap', H1', ha', H3', rfl, by go_num, H4', H5', H2'⟩
                case measure => simp [intOf]; omega
          · have t1 : decide (bs.length ≤ a) = true := by simp; omega
            have HE : decD bs = .error bs.length := by
              rw [HD.out, ← RR.out, HK.out, funcsA, if_pos hend]
              rfl
            have HEH := Lib.hid HE
            clear HE hend
            go_wp2_with fail
            refine (bad_any _ _).mono ?_
            rintro e w9 ⟨rfl, hx9⟩
            have D9 := Lib.hid (DD.out.ex hx9)
            clear hx9
            have c0 := D9.out.r.cell 0
            have c1 := D9.out.r.cell 1
            have f0 := D9.out.r.soft 0
            have f1 := D9.out.r.soft 1
            go_wp2_with fail
            exact rfin_bad ⟨HEH.out,rfl⟩ _ rfl rfl rfl D9.out.r D9.out.x
        · have hge : ¬ (c : Int) < n := hlt
          have hfin : r = .ok (acc, a) := by
            rw [← RR.out, show n.toNat - c = 0 by omega]
            rfl
          have HF := Lib.hid hfin
          clear hfin
          by_cases hend : a < bs.length
          · have t1 : decide (a < bs.length) = true := by simp [hend]
            have hE : decD bs = .error a := by
              rw [HD.out, HF.out, finD, if_pos hend]
            have HE := Lib.hid hE
            clear hE
            go_wp2_with fail
            refine (bad_any _ _).mono ?_
            rintro e w9 ⟨rfl, hx9⟩
            have D9 := Lib.hid (DD.out.ex hx9)
            clear hx9
            have c0 := D9.out.r.cell 0
            have c1 := D9.out.r.cell 1
            have f0 := D9.out.r.soft 0
            have f1 := D9.out.r.soft 1
            go_wp2_with fail
            exact rfin_bad ⟨HE.out,rfl⟩ _ rfl rfl rfl D9.out.r D9.out.x
          · have t1 : decide (a < bs.length) = false := by simp; omega
            have hE : decD bs = .ok (g, acc) := by
              rw [HD.out, HF.out, finD, if_neg hend]
            have HE := Lib.hid hE
            have hsh : ∃ a n c, fv = .slice a n c := by
              obtain ⟨lvs, k1, k2, k3⟩ := PP.out
              rcases row_shape k2 with ⟨h, -⟩ | ⟨g, cap, h, -⟩
              · exact ⟨_, _, _, h⟩
              · exact ⟨_, _, _, h⟩
            obtain ⟨sa, sn, sc, rfl⟩ := hsh
            have p0 : wr.cell? ⟨w.heap.size + 1, 0, none⟩ = some (.int .i64 g) := DD.out.p.cell 0
            have p1 : wr.cell? ⟨w.heap.size + 1, 1, none⟩ = some (.slice sa sn sc) := DD.out.p.cell 1
            have p2 : wr.cell? ⟨w.heap.size, 0, none⟩ = some (.int .i64 0) := DD.out.r.cell 0
            have p3 : wr.cell? ⟨w.heap.size, 1, none⟩ = some (.slice none 0 0) := DD.out.r.cell 1
            have f0 := DD.out.r.soft 0
            have f1 := DD.out.r.soft 1
            clear hE
            go_wp2_with fail
            have d := DD.out
            have cw := (Chg.cell (F := fun i => i = w.heap.size) wr ⟨w.heap.size, 0, none⟩ (.int .i64 g) rfl).trans (Chg.cell (F := fun i => i = w.heap.size) _ ⟨w.heap.size, 1, none⟩ (.slice sa sn sc) rfl) (fun _ _ h => h)
            refine rfin_ok (fv := .slice sa sn sc) HE.out _ rfl rfl rfl ?_ ?_ ?_
            · exact (d.r.put 0 _).put 1 _
            · exact Below.trans d.x (cw.below d.x.size (fun i hi => by omega))
            · exact RdP.of (PP.out.chg cw (fun i hi _ e => by omega))
    · have l3 : (bs.length : Int) < 2 := by omega
      have HE : decD bs = .error bs.length := by
        unfold decD
        rw [if_neg (by have := H1.out; omega), if_neg (by rw [HN.out]; omega), if_pos hl1]
      have HEH := Lib.hid HE
      clear HE hl1
      have E1L : Hid (bs.length = 1) := Lib.hid (by omega)
      go_wp2_with fail
      refine (bad_any _ _).mono ?_
      rintro e w9 ⟨rfl, hx9⟩
      have D9 := Lib.hid (D0.out.ex hx9)
      clear hx9
      have c0 := D9.out.r.cell 0
      have c1 := D9.out.r.cell 1
      have f0 := D9.out.r.soft 0
      have f1 := D9.out.r.soft 1
      go_wp2_with fail
      exact rfin_bad ⟨HEH.out,(by rw [E1L.out]; rfl)⟩ _ rfl rfl rfl D9.out.r D9.out.x
  · have e0 : bs.length = 0 := by omega
    have hd : decD bs = .error bs.length := by
      unfold decD
      rw [if_pos hl0]
    have HD := Lib.hid hd
    have HE0 := Lib.hid e0
    have l1 : (bs.length : Int) < 1 := by omega
    clear h hd e0 hl0
    go_enter Try.func12, Try.ntmps12
    go_wp2_with fail
    obtain ⟨W, hW⟩ : ∃ W, W = ((w.alloc (.cells #[.int .i64 0, .slice none 0 0] 24)).alloc (.cells #[.int .i64 0, .slice none 0 0] 24)) := ⟨_, rfl⟩
    rw [← hW] at D0 ⊢
    clear hW
    refine (bad_any _ _).mono ?_
    rintro e w9 ⟨rfl, hx9⟩
    have D9 := Lib.hid (D0.out.ex hx9)
    clear hx9
    have c0 := D9.out.r.cell 0
    have c1 := D9.out.r.cell 1
    have f0 := D9.out.r.soft 0
    have f1 := D9.out.r.soft 1
    go_wp2_with fail
    exact rfin_bad ⟨HD.out,(by rw [HE0.out]; rfl)⟩ _ rfl rfl rfl D9.out.r D9.out.x

end Go.Proofs.Ytmajnjbjoagihaa

