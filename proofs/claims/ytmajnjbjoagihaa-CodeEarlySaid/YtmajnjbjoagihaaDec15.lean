/- Package code: Decode. -/
import Derived.Test.YtmajnjbjoagihaaDecL15
namespace Go.Proofs.Ytmajnjbjoagihaa
open Go.RowKit
set_option linter.unusedVariables false
set_option linter.unusedSimpArgs false

set_option maxRecDepth 20000 in
set_option maxHeartbeats 6400000 in
theorem decode_any {w : World} {v : Value} {bs : List Int} (h : Bs w v bs) :
    Calls Try.prog 11 #[v] w (DecDone w (decD bs)) := by
  obtain ⟨va, cap, rfl⟩ := h.val
  have HB := Lib.hid h
  have L := h.len
  have hmf : ∀ (fn : Fn) (first cap : Array Value) (w : World), (Instr.makeFunc fn first cap).run Try.prog w = .ok (.func fn first cap) w := fun _ _ _ _ => rfl
  clear h
  go_enter_defers Try.func11, Try.ntmps11
  have D0 := Lib.hid (DS.start HB.out)
  go_wp2_with fail
  obtain ⟨W, hW⟩ : ∃ W, W = (((w.alloc (.cells #[.int .i64 0, .slice none 0 0] 24)).alloc (.cells #[.int .i64 0] 3)).alloc (.cells #[.int .i64 0] 3)).alloc (.cells #[.slice va bs.length cap, .int .i64 0] 52) := ⟨_, rfl⟩
  rw [← hW] at D0 ⊢
  clear hW
  refine (next_any 0 D0.out.b D0.out.r (by omega) 1 16).mono ?_
  rintro e w1 (⟨h1, rfl, hx⟩ | ⟨h1, h2, rfl, hx⟩ | ⟨h1, h2, rfl, hbx, hc⟩)
  · have hd : decD bs = .error bs.length := by unfold decD; rw [if_pos h1]
    have D1 := D0.out.ex hx
    rw [hd]
    exact fin_bad _ rfl rfl rfl D1.p D1.e D1.t D1.x
  · have hd : decD bs = .error 0 := by unfold decD; rw [if_neg (by omega), if_pos h2]
    have D1 := D0.out.ex hx
    rw [hd]
    exact fin_bad _ rfl rfl rfl D1.p D1.e D1.t D1.x
  · obtain ⟨gb, ob, rfl, -, hcap, -⟩ := HB.out.at 0 h1
    have gl : gb < w.heap.size := HB.out.gl h1
    have D1 := Lib.hid (D0.out.next (a2 := 1) gl hbx hc)
    obtain ⟨n, hn⟩ : ∃ n, bs.getD 0 0 = n := ⟨_, rfl⟩
    rw [hn] at h2 ⊢
    have n1 : 1 ≤ n := by omega
    have n2 : n ≤ 16 := by omega
    have HN := Lib.hid hn
    have H1 := Lib.hid h1
    clear hbx hc hn h1 h2 D0
    go_wp2_with fail
    refine (next_any 1 D1.out.b D1.out.r (by omega) 0 32).mono ?_
    rintro e w2 (⟨h1, rfl, hx⟩ | ⟨h1, h2, rfl, hx⟩ | ⟨h1, h2, rfl, hbx, hc⟩)
    · have hd : decD bs = .error bs.length := by
        unfold decD
        rw [if_neg (by have := H1.out; omega), if_neg (by rw [HN.out]; omega), if_pos h1]
      have D2 := D1.out.ex hx
      rw [hd]
      exact fin_bad _ rfl rfl rfl D2.p D2.e D2.t D2.x
    · have hd : decD bs = .error 1 := by
        unfold decD
        rw [if_neg (by have := H1.out; omega), if_neg (by rw [HN.out]; omega), if_neg (by omega), if_pos h2]
      have D2 := D1.out.ex hx
      rw [hd]
      exact fin_bad _ rfl rfl rfl D2.p D2.e D2.t D2.x
    · have D2 := Lib.hid (D1.out.next (a2 := 2) gl hbx hc)
      obtain ⟨g, hg⟩ : ∃ n, bs.getD 1 0 = n := ⟨_, rfl⟩
      rw [hg] at h2 ⊢
      have g1 : 0 ≤ g := by omega
      have g2 : g ≤ 32 := by omega
      obtain ⟨r, hr⟩ : ∃ r, funcsA g n bs n.toNat 2 [] = r := ⟨_, rfl⟩
      have hdec : decD bs = finD bs g r := by
        unfold decD
        rw [if_neg (by have := H1.out; omega), if_neg (by rw [HN.out]; omega), if_neg (by omega), if_neg (by rw [hg]; omega), hg, HN.out, hr]
      have HD := Lib.hid hdec
      have HR := Lib.hid hr
      have p0 : w2.cell? ⟨w.heap.size, 0, none⟩ = some (.int .i64 0) := D2.out.p.cell 0
      have pf := D2.out.p.soft 0
      clear hbx hc hg h1 h2 hdec hr D1 H1 HN
      go_upto_region 5 with fail
      have D3 : Hid (DS w (w2.setCell ⟨w.heap.size, 0, none⟩ (.int .i64 g)) (.slice (some ⟨gb, ob, none⟩) bs.length cap) bs g (.slice none 0 0) 2) := Lib.hid (by
        have d := D2.out
        exact ⟨d.p.put 0 _, d.e.put_other (by omega) 0 _, d.t.put_other (by omega) 0 _, d.r.put_other (by omega) 0 _, d.b.chg (Chg.cell (F := fun i => i = w.heap.size) w2 ⟨w.heap.size, 0, none⟩ _ rfl) (by omega),
          Below.trans d.x ((Chg.cell (F := fun i => i = w.heap.size) w2 ⟨w.heap.size, 0, none⟩ _ rfl).below d.x.size (fun i hi => by subst hi; omega))⟩)
      obtain ⟨W3, hW3⟩ : ∃ W3, W3 = w2.setCell ⟨w.heap.size, 0, none⟩ (.int .i64 g) := ⟨_, rfl⟩
      rw [← hW3] at D3 ⊢
      clear hW3 D2 p0 pf
      go_wp2_with fail
      go_loopw [19] (fun iv wr => ∃ (c a : Nat) (acc : List (List I4)) (fv : Value), (c : Int) ≤ n ∧ a ≤ bs.length + 2 ∧ acc.length = c ∧ iv = .int .i64 (c : Int) ∧ DS w wr (.slice (some ⟨gb, ob, none⟩) bs.length cap) bs g fv a ∧ PRow wr (w.heap.size + 4) fv acc ∧ funcsA g n bs (n.toNat - c) a acc = r) (fun iv _ => n.toNat - (intOf iv).toNat)
      case atStart => exact ⟨0, 2, [], .slice none 0 0, by omega, by omega, rfl, rfl, D3.out, PRow.nil _ _, HR.out⟩
      case round =>
        obtain ⟨c, a, acc, fv, hcn, ha, hacc, rfl, hd, hp, hr⟩ := hrel
        have DD := Lib.hid hd
        have PP := Lib.hid hp
        have RR := Lib.hid hr
        have HC := Lib.hid hacc
        clear hd hp hr hacc D3
        by_cases hlt : (c : Int) < n
        · have hk : ∃ k, n.toNat - c = k + 1 := ⟨n.toNat - c - 1, by omega⟩
          obtain ⟨k, hk⟩ := hk
          have HK := Lib.hid hk
          have p0 : wr.cell? ⟨w.heap.size, 0, none⟩ = some (.int .i64 g) := DD.out.p.cell 0
          clear hk
          go_upto_region 7 with fail
          have hnx := next_any a DD.out.b DD.out.r (by omega) 1 64
          by_cases hend : a < bs.length
          · by_cases hbad : bs.getD a 0 < 1 ∨ 64 < bs.getD a 0
            · clear hnx
              have hE : decD bs = .error a := by
                rw [HD.out, ← RR.out, HK.out, funcsA, if_neg (by omega), if_pos hbad]
                rfl
              have KN : Hid (∀ W, Ex wr W → Calls Try.prog 19 #[.pointer (some ⟨w.heap.size + 1 + 1 + 1, 0, none⟩), .int .i64 1, .int .i64 64] W fun e w' => e = thrown a ∧ Ex wr w') := Lib.hid (by
                intro W hW
                refine (next_any a (DD.out.ex hW).b (DD.out.ex hW).r (by omega) 1 64).mono ?_
                rintro e w' (⟨h1, rfl, hx⟩ | ⟨h1, h2, rfl, hx⟩ | ⟨h1, h2, -⟩)
                · exact absurd hend h1
                · exact ⟨rfl, hW.trans hx⟩
                · exact absurd hbad h2)
              refine wp_pan w.heap.size (fun c W => c = [{ v := badV (a : Nat), recovered := false }] ∧ Ex wr W) ?_ ?_
              · rintro c' ⟨tm, df⟩ W ⟨rfl, hx⟩ ⟨s2, s3, s4, rfl⟩
                have D5 := DD.out.ex hx
                have := fin_bad (p := a) tm s2 s3 s4 D5.p D5.e D5.t D5.x
                rw [← hE] at this
                exact this
              refine wp_region_held_drew (S := fun w' => w'.cell? ⟨w.heap.size, 0, none⟩ = some (.int .i64 g)) (by kernel_rfl) ?_ (fun hHeld => ?_)
              · go_keep
              refine wpAnyH_take (i := 0) (v := ?_) rfl (by kernel_rfl) (by kernel_rfl) (by kernel_rfl) (fun _ _ _ h => ⟨h.1, slots_put h.2 (by omega)⟩) (Or.inl ⟨by rfl, ?_⟩) (by assumption) ?_
              rotate_left
              · intro w hSw; (try dsimp only at hSw); go_simp; try with_reducible rfl
              try simp only [Act.put, List.setIfInBounds_toArray, List.set_cons_zero, List.set_cons_succ]
              refine wpAnyH_take (i := 1) (v := ?_) rfl (by kernel_rfl) (by kernel_rfl) (by kernel_rfl) (fun _ _ _ h => ⟨h.1, slots_put h.2 (by omega)⟩) (Or.inl ⟨by rfl, ?_⟩) (by assumption) ?_
              rotate_left
              · intro w hSw; (try dsimp only at hSw); go_simp; try with_reducible rfl
              try simp only [Act.put, List.setIfInBounds_toArray, List.set_cons_zero, List.set_cons_succ]
              refine wpAnyH_take (i := 2) (v := ?_) rfl (by kernel_rfl) (by kernel_rfl) (by kernel_rfl) (fun _ _ _ h => ⟨h.1, slots_put h.2 (by omega)⟩) (Or.inl ⟨by rfl, ?_⟩) (by assumption) ?_
              rotate_left
              · intro w hSw; (try dsimp only at hSw); go_simp; try with_reducible rfl
              try simp only [Act.put, List.setIfInBounds_toArray, List.set_cons_zero, List.set_cons_succ]
              refine wpAnyH_take (i := 3) (v := ?_) rfl (by kernel_rfl) (by kernel_rfl) (by kernel_rfl) (fun _ _ _ h => ⟨h.1, slots_put h.2 (by omega)⟩) (Or.inl ⟨by rfl, ?_⟩) (by assumption) ?_
              rotate_left
              · intro w hSw; (try dsimp only at hSw); go_simp; try with_reducible rfl
              try simp only [Act.put, List.setIfInBounds_toArray, List.set_cons_zero, List.set_cons_succ]
              refine wpAnyH_ready (rs := [4, 6]) (by kernel_rfl) (by simp) ?_
              refine AllReadyH.cons rfl (fun K hK => ?_) (AllReadyH.cons rfl (fun K hK => ?_) AllReadyH.nil)
              · go_simp
                go_at_call 19
                (with_reducible refine (KN.out _ (ex_drew wr)).mono ?_)
                rintro e w5 ⟨rfl, h5⟩
                exact ⟨⟨rfl, h5⟩, rfl, rfl, rfl, rfl⟩
              · go_simp
                refine hK.out _ _ ?_ (fun hHeld => ?_)
                · go_keep
                clear hK K
                try simp only [Act.put, List.setIfInBounds_toArray, List.set_cons_zero, List.set_cons_succ]
                refine wpAnyH_ready (rs := [4]) (by kernel_rfl) (by simp) ?_
                refine AllReadyH.cons rfl (fun K hK => ?_) AllReadyH.nil
                go_simp
                go_at_call 19
                (with_reducible refine (KN.out _ ((Ex.made wr _).trans (ex_drew _))).mono ?_)
                rintro e w5 ⟨rfl, h5⟩
                exact ⟨⟨rfl, h5⟩, rfl, rfl, rfl, rfl⟩
            · obtain ⟨s, hs⟩ : ∃ s, bs.getD a 0 = s := ⟨_, rfl⟩
              rw [hs] at hbad
              have s1 : 1 ≤ s := by omega
              have s2 : s ≤ 64 := by omega
              have KN : Hid (∀ W, Ex wr W → Calls Try.prog 19 #[.pointer (some ⟨w.heap.size + 1 + 1 + 1, 0, none⟩), .int .i64 1, .int .i64 64] W fun e w' => e = .returned (.int .i64 s) ∧ Box w' (w.heap.size + 1 + 1 + 1) #[.slice (some ⟨gb, ob, none⟩) bs.length cap, .int .i64 ((a : Int) + 1)] 52 ∧ Chg (fun i => i = w.heap.size + 1 + 1 + 1) W w') := Lib.hid (by
                intro W hW
                refine (next_any a (DD.out.ex hW).b (DD.out.ex hW).r (by omega) 1 64).mono ?_
                rintro e w' (⟨h1, rfl, hx⟩ | ⟨h1, h2, rfl, hx⟩ | ⟨h1, h2, rfl, hb5, hc5⟩)
                · exact absurd hend h1
                · rw [hs] at h2; exact absurd h2 hbad
                · exact ⟨by rw [hs], hb5, hc5⟩)
              have HS := Lib.hid hs
              clear hnx hs hbad
              have KP : Hid (∀ W, Chg (fun i => i = w.heap.size + 1 + 1 + 1) wr W → W.cell? ⟨w.heap.size, 0, none⟩ = some (.int .i64 g)) := Lib.hid (fun W hW => (DD.out.p.chg hW (by omega)).cell 0)
              refine wp_pan w.heap.size (fun c W => False) (fun _ _ _ h => h.elim) ?_
              refine wp_region_held_drew (S := fun w' => w'.cell? ⟨w.heap.size, 0, none⟩ = some (.int .i64 g)) (by kernel_rfl) ?_ (fun hHeld => ?_)
              · go_keep
              refine wpAnyH_take (i := 0) (v := ?_) rfl (by kernel_rfl) (by kernel_rfl) (by kernel_rfl) (fun _ _ _ h => ⟨h.1, slots_put h.2 (by omega)⟩) (Or.inl ⟨by rfl, ?_⟩) (by assumption) ?_
              rotate_left
              · intro w hSw; (try dsimp only at hSw); go_simp; try with_reducible rfl
              try simp only [Act.put, List.setIfInBounds_toArray, List.set_cons_zero, List.set_cons_succ]
              refine wpAnyH_take (i := 1) (v := ?_) rfl (by kernel_rfl) (by kernel_rfl) (by kernel_rfl) (fun _ _ _ h => ⟨h.1, slots_put h.2 (by omega)⟩) (Or.inl ⟨by rfl, ?_⟩) (by assumption) ?_
              rotate_left
              · intro w hSw; (try dsimp only at hSw); go_simp; try with_reducible rfl
              try simp only [Act.put, List.setIfInBounds_toArray, List.set_cons_zero, List.set_cons_succ]
              refine wpAnyH_take (i := 2) (v := ?_) rfl (by kernel_rfl) (by kernel_rfl) (by kernel_rfl) (fun _ _ _ h => ⟨h.1, slots_put h.2 (by omega)⟩) (Or.inl ⟨by rfl, ?_⟩) (by assumption) ?_
              rotate_left
              · intro w hSw; (try dsimp only at hSw); go_simp; try with_reducible rfl
              try simp only [Act.put, List.setIfInBounds_toArray, List.set_cons_zero, List.set_cons_succ]
              refine wpAnyH_take (i := 3) (v := ?_) rfl (by kernel_rfl) (by kernel_rfl) (by kernel_rfl) (fun _ _ _ h => ⟨h.1, slots_put h.2 (by omega)⟩) (Or.inl ⟨by rfl, ?_⟩) (by assumption) ?_
              rotate_left
              · intro w hSw; (try dsimp only at hSw); go_simp; try with_reducible rfl
              try simp only [Act.put, List.setIfInBounds_toArray, List.set_cons_zero, List.set_cons_succ]
              refine wpAnyH_ready (rs := [4, 6]) (by kernel_rfl) (by simp) ?_
              refine AllReadyH.cons rfl (fun K hK => ?_) (AllReadyH.cons rfl (fun K hK => ?_) AllReadyH.nil)
              go_simp
              go_at_call 19
              (with_reducible refine (KN.out _ (ex_drew wr)).mono ?_)
              rintro e w5 ⟨rfl, hb5, hc6⟩
              have hc5 := ((ex_drew wr).chg (fun i => i = w.heap.size + 1 + 1 + 1)).trans hc6 (fun _ _ h => h)
              clear hc6
              try dsimp only
              refine hK.out _ _ (KP.out _ hc5) (fun hHeld => ?_)
              clear hK K
              try simp only [Act.put, List.setIfInBounds_toArray, List.set_cons_zero, List.set_cons_succ]
              have DN : Hid (DS w w5 (.slice (some ⟨gb, ob, none⟩) bs.length cap) bs g fv (a + 1)) := Lib.hid (DD.out.next gl (by rw [show ((a + 1 : Nat) : Int) = (a : Int) + 1 by omega]; exact hb5) hc5)
              have PN := Lib.hid (PP.out.chg hc5 (fun i hi _ => by omega))
              have hwl : w.heap.size + 4 ≤ w5.heap.size := by have := DN.out.r.lt; omega
              clear hb5 hc5
              refine wpAnyH_take (i := 5) (v := ?_) rfl (by kernel_rfl) (by kernel_rfl) (by kernel_rfl) (fun _ _ _ h => ⟨h.1, slots_put h.2 (by omega)⟩) (Or.inl ⟨by rfl, ?_⟩) (by assumption) ?_
              rotate_left
              · intro w hSw; (try dsimp only at hSw); go_simp; try with_reducible rfl
              try simp only [Act.put, List.setIfInBounds_toArray, List.set_cons_zero, List.set_cons_succ]
              refine wpAnyH_ready (rs := [6]) (by kernel_rfl) (by simp) ?_
              refine AllReadyH.cons rfl (fun K hK => ?_) AllReadyH.nil
              go_simp
              refine hK.out _ _ ?_ (fun hHeld => ?_)
              · go_keep
              clear hK K
              try simp only [Act.put, List.setIfInBounds_toArray, List.set_cons_zero, List.set_cons_succ]
              refine wpAnyH_ready (rs := [7]) (by kernel_rfl) (by simp) ?_
              refine AllReadyH.cons rfl (fun K hK => ?_) AllReadyH.nil
              go_simp
              refine hK.out _ _ ?_ (fun hHeld => ?_)
              · go_keep
              clear hK K
              try simp only [Act.put, List.setIfInBounds_toArray, List.set_cons_zero, List.set_cons_succ]
              refine wpAnyH_done (by kernel_rfl) ?_ _
              have D6 := Lib.hid (DN.out.ex (Ex.made w5 (.cells #[.int .i64 g, .int .i64 n, .int .i64 s] 55)))
              have P6 : Hid (∀ W', Chg (fun i => i = w.heap.size + 1 + 1 + 1 ∨ w5.heap.size ≤ i) (w5.alloc (.cells #[.int .i64 g, .int .i64 n, .int .i64 s] 55)) W' → PRow W' (w.heap.size + 4) fv acc) := Lib.hid (fun W' hW' => PN.out.chg (((Ex.made w5 (.cells #[.int .i64 g, .int .i64 n, .int .i64 s] 55)).chg (fun i => i = w.heap.size + 1 + 1 + 1 ∨ w5.heap.size ≤ i)).trans hW' (fun _ _ h => h)) (fun i hi hi2 hF => by omega))
              have F6 := Lib.hid (Box.fresh w5 #[.int .i64 g, .int .i64 n, .int .i64 s] 55)
              obtain ⟨fbk, hfb⟩ : ∃ f, w5.heap.size = f := ⟨_, rfl⟩
              rw [hfb] at F6 P6 hwl ⊢
              clear hfb
              obtain ⟨W6, hW6⟩ : ∃ W6, W6 = w5.alloc (.cells #[.int .i64 g, .int .i64 n, .int .i64 s] 55) := ⟨_, rfl⟩
              rw [← hW6] at D6 P6 F6 ⊢
              clear hW6 DN PN hHeld
              rotate_left
              go_simp
              refine hK.out _ _ ?_ (fun hHeld => ?_)
              · go_keep
              clear hK K
              try simp only [Act.put, List.setIfInBounds_toArray, List.set_cons_zero, List.set_cons_succ]
              refine wpAnyH_ready (rs := [4]) (by kernel_rfl) (by simp) ?_
              refine AllReadyH.cons rfl (fun K hK => ?_) AllReadyH.nil
              go_simp
              go_at_call 19
              (with_reducible refine (KN.out _ ((Ex.made wr _).trans (ex_drew _))).mono ?_)
              rintro e w5 ⟨rfl, hb5, hc6⟩
              have hc5 := (((Ex.made wr (.cells #[.int .i64 0, .int .i64 0, .int .i64 0] 55)).trans (ex_drew _)).chg (fun i => i = w.heap.size + 1 + 1 + 1)).trans hc6 (fun _ _ h => h)
              have rbl := DD.out.r.lt
              have F5 : Hid (Box w5 wr.heap.size #[.int .i64 0, .int .i64 0, .int .i64 0] 55) := Lib.hid (((Box.fresh wr _ _).ex (ex_drew _)).chg hc6 (by omega))
              clear hc6
              try dsimp only
              refine hK.out _ _ (KP.out _ hc5) (fun hHeld => ?_)
              clear hK K
              try simp only [Act.put, List.setIfInBounds_toArray, List.set_cons_zero, List.set_cons_succ]
              have DN : Hid (DS w w5 (.slice (some ⟨gb, ob, none⟩) bs.length cap) bs g fv (a + 1)) := Lib.hid (DD.out.next gl (by rw [show ((a + 1 : Nat) : Int) = (a : Int) + 1 by omega]; exact hb5) hc5)
              have PN := Lib.hid (PP.out.chg hc5 (fun i hi _ => by omega))
              have hwl : w.heap.size + 4 ≤ wr.heap.size := by omega
              have HC5 := Lib.hid hc5
              clear hb5 hc5
              have z0 : w5.cell? ⟨wr.heap.size, 0, none⟩ = some (.int .i64 0) := F5.out.cell 0
              have z1 : w5.cell? ⟨wr.heap.size, 1, none⟩ = some (.int .i64 0) := F5.out.cell 1
              have z2 : w5.cell? ⟨wr.heap.size, 2, none⟩ = some (.int .i64 0) := F5.out.cell 2
              have zf0 := F5.out.soft 0
              have zf1 := F5.out.soft 1
              have zf2 := F5.out.soft 2
              have zl := F5.out.lt
              have nz : ¬ wr.heap.size = w.heap.size := by omega
              obtain ⟨fbk, hfb⟩ : ∃ f, wr.heap.size = f := ⟨_, rfl⟩
              have HFB := Lib.hid hfb
              rw [hfb] at F5 hwl z0 z1 z2 zf0 zf1 zf2 zl nz ⊢
              clear hfb
              refine wpAnyH_take (i := 5) (v := ?_) rfl (by kernel_rfl) (by kernel_rfl) (by kernel_rfl) (fun _ _ _ h => ⟨h.1, slots_put h.2 (by omega)⟩) (Or.inl ⟨by rfl, ?_⟩) (by assumption) ?_
              rotate_left
              · intro w hSw; (try dsimp only at hSw); go_simp; try with_reducible rfl
              try simp only [Act.put, List.setIfInBounds_toArray, List.set_cons_zero, List.set_cons_succ]
              refine wpAnyH_ready (rs := [7]) (by kernel_rfl) (by simp) ?_
              refine AllReadyH.cons rfl (fun K hK => ?_) AllReadyH.nil
              go_simp
              refine hK.out _ _ ?_ (fun hHeld => ?_)
              · go_keep
              clear hK K
              try simp only [Act.put, List.setIfInBounds_toArray, List.set_cons_zero, List.set_cons_succ]
              refine wpAnyH_done (by kernel_rfl) ?_ _
              have F6 : Hid (Box (((w5.setCell ⟨fbk, 0, none⟩ (.int .i64 g)).setCell ⟨fbk, 1, none⟩ (.int .i64 n)).setCell ⟨fbk, 2, none⟩ (.int .i64 s)) fbk #[.int .i64 g, .int .i64 n, .int .i64 s] 55) := Lib.hid (((F5.out.put 0 (.int .i64 g)).put 1 (.int .i64 n)).put 2 (.int .i64 s))
              have cB : Chg (fun i => i = fbk) w5 (((w5.setCell ⟨fbk, 0, none⟩ (.int .i64 g)).setCell ⟨fbk, 1, none⟩ (.int .i64 n)).setCell ⟨fbk, 2, none⟩ (.int .i64 s)) :=
                ((Chg.cell (F := fun i => i = fbk) w5 ⟨fbk, 0, none⟩ (.int .i64 g) rfl).trans (Chg.cell (F := fun i => i = fbk) _ ⟨fbk, 1, none⟩ (.int .i64 n) rfl) (fun _ _ h => h)).trans (Chg.cell (F := fun i => i = fbk) _ ⟨fbk, 2, none⟩ (.int .i64 s) rfl) (fun _ _ h => h)
              have D6 : Hid (DS w (((w5.setCell ⟨fbk, 0, none⟩ (.int .i64 g)).setCell ⟨fbk, 1, none⟩ (.int .i64 n)).setCell ⟨fbk, 2, none⟩ (.int .i64 s)) (.slice (some ⟨gb, ob, none⟩) bs.length cap) bs g fv (a + 1)) := Lib.hid (by
                have d := DN.out
                exact ⟨d.p.chg cB (by omega), d.e.chg cB (by omega), d.t.chg cB (by omega), d.r.chg cB (by omega), d.b.chg cB (by omega), Below.trans d.x (cB.below d.x.size (fun i hi => by subst hi; omega))⟩)
              have P6 : Hid (∀ W', Chg (fun i => i = w.heap.size + 1 + 1 + 1 ∨ fbk ≤ i) (((w5.setCell ⟨fbk, 0, none⟩ (.int .i64 g)).setCell ⟨fbk, 1, none⟩ (.int .i64 n)).setCell ⟨fbk, 2, none⟩ (.int .i64 s)) W' → PRow W' (w.heap.size + 4) fv acc) := Lib.hid (by
                intro W' hW'
                refine PP.out.chg (((HC5.out.weak (G := (fun i => i = w.heap.size + 1 + 1 + 1 ∨ fbk ≤ i)) (fun _ _ h => .inl h)).trans cB (fun i _ h => .inr (by omega))).trans hW' (fun _ _ h => h)) (fun i hi hi2 hF => ?_)
                have := HFB.out
                rcases hF with h | h <;> omega)
              obtain ⟨W6, hW6⟩ : ∃ W6, W6 = ((w5.setCell ⟨fbk, 0, none⟩ (.int .i64 g)).setCell ⟨fbk, 1, none⟩ (.int .i64 n)).setCell ⟨fbk, 2, none⟩ (.int .i64 s) := ⟨_, rfl⟩
              rw [← hW6] at D6 P6 F6 ⊢
              clear hW6 cB z0 z1 z2 zf0 zf1 zf2 DN PN F5 hHeld HC5 HFB
              all_goals
                refine panq_normal ?_
                have fl := F6.out.lt
                have q0 : W6.cell? ⟨fbk, 0, none⟩ = some (.int .i64 g) := F6.out.cell 0
                have q1 : W6.cell? ⟨fbk, 1, none⟩ = some (.int .i64 n) := F6.out.cell 1
                have q2 : W6.cell? ⟨fbk, 2, none⟩ = some (.int .i64 s) := F6.out.cell 2
                go_wp2_with fail
                go_loopw [8, 29] (fun lv iv wr2 => ∃ (j a' : Nat) (l : List I4), (j : Int) ≤ s ∧ a' ≤ bs.length ∧ l.length = j ∧ iv = .int .i64 (j : Int) ∧ DS w wr2 (.slice (some ⟨gb, ob, none⟩) bs.length cap) bs g fv a' ∧ (∀ W', Chg (fun i => i = w.heap.size + 1 + 1 + 1 ∨ fbk ≤ i) wr2 W' → PRow W' (w.heap.size + 4) fv acc) ∧ Box wr2 fbk #[.int .i64 g, .int .i64 n, .int .i64 s] 55 ∧ IRow wr2 fbk fv.ownBlock lv l ∧ (∀ q, lv.ownBlock = some q → q ≠ fbk) ∧ instsA g n s bs (s.toNat - j) a' l = instsA g n s bs s.toNat (a + 1) []) (fun lv iv _ => s.toNat - (intOf iv).toNat)
                case atStart => exact ⟨0, a + 1, [], by omega, by omega, rfl, rfl, D6.out, P6.out, F6.out, ⟨World.ownsRow_nil _ _ _ _, fun _ h => (by cases h)⟩, fun _ h => (by cases h), rfl⟩
                case round =>
                  obtain ⟨j, a', l, hj, ha', hl, rfl, hd7, hp7, hf7, hi7, ho7, hr7⟩ := hrel
                  have D7 := Lib.hid hd7
                  have P7 := Lib.hid hp7
                  have F7 := Lib.hid hf7
                  have I7 := Lib.hid hi7
                  have O7 := Lib.hid ho7
                  have R7 := Lib.hid hr7
                  have L7 := Lib.hid hl
                  clear hd7 hp7 hf7 hi7 ho7 hr7 hl D6 P6 F6 q0 q1 q2 fl
                  have fl := F7.out.lt
                  have q0 := F7.out.cell 0
                  have q1 := F7.out.cell 1
                  have q2 := F7.out.cell 2
                  by_cases hlt2 : (j : Int) < s
                  · obtain ⟨k2, hk2⟩ : ∃ k2, s.toNat - j = k2 + 1 := ⟨s.toNat - j - 1, by omega⟩
                    have HK2 := Lib.hid hk2
                    clear hk2
                    go_wp2_with fail
                    refine (inst_any a' D7.out.b D7.out.r (fun q hq => by cases hq; dsimp only; omega) (by omega) ⟨by omega, by omega, by omega⟩).mono ?_
                    rintro e w5 hde
                    cases hid : instD g n s bs a' with
                    | error p =>
                      rw [hid] at hde
                      obtain ⟨rfl, hc⟩ := hde
                      have hE : decD bs = .error p := by
                        rw [HD.out, ← RR.out, HK.out, funcsA, if_neg (by omega), if_neg (by rw [HS.out]; omega), HS.out, ← R7.out, HK2.out, instsA, hid]
                        rfl
                      have d := D7.out
                      exact fin_bad' hE _ rfl rfl rfl (d.p.chg hc (by omega)) (d.e.chg hc (by omega)) (d.t.chg hc (by omega)) (Below.trans d.x (hc.below d.x.size (fun i hi => by omega)))
                    | ok x =>
                      rw [hid] at hde
                      obtain ⟨rfl, hb5, hc5⟩ := hde
                      have D8 : Hid (DS w w5 (.slice (some ⟨gb, ob, none⟩) bs.length cap) bs g fv (a' + 4)) := Lib.hid (D7.out.next gl (by rw [show ((a' + 4 : Nat) : Int) = (a' : Int) + 4 by omega]; exact hb5) hc5)
                      have P8 : Hid (∀ W', Chg (fun i => i = w.heap.size + 1 + 1 + 1 ∨ fbk ≤ i) w5 W' → PRow W' (w.heap.size + 4) fv acc) := Lib.hid (fun W' hW' => P7.out W' ((hc5.weak (G := fun i => i = w.heap.size + 1 + 1 + 1 ∨ fbk ≤ i) (fun _ _ h => .inl h)).trans hW' (fun _ _ h => h)))
                      have F8 := Lib.hid (F7.out.chg hc5 (by omega))
                      have I8 := Lib.hid (I7.out.chg hc5 (fun q hq => by have := row_base I7.out.1 q hq; omega))
                      have ha4 := instD_le hid
                      have R8 : Hid (instsA g n s bs k2 (a' + 4) (l ++ [x]) = instsA g n s bs s.toNat (a + 1) []) := Lib.hid (by
                        rw [← R7.out, HK2.out, instsA, hid])
                      have hll : l.length ≤ 64 := by have := L7.out; omega
                      have hfb5 : fbk < w5.heap.size := Nat.lt_of_lt_of_le fl hc5.size
                      have HX := Lib.hid hid
                      clear hb5 hc5 hid D7 P7 F7 I7 R7 q0 q1 q2 fl
                      obtain ⟨x0, x1, x2, x3⟩ := x
                      obtain ⟨i0, hi, hz0, hz1, hz2⟩ := info_parts info_inst
                      unfold instV
                      go_wp2_with (at_builtin; refine wpList_append_mine _ rfl (.tmp 31) (.tmp 35) 30 rfl fbk 45 i0 (.agg #[.int .i64 0, .int .i64 0, .int .i64 0, .int .i64 0]) 4 32 Try.underlying30 hi hz0 hz1 hz2 rfl (by decide) _ _ _ rfl (I8.out.1.alloc _) ⟨w5.heap.size, 0, none⟩ 1 1 [.int .i64 x0, .int .i64 x1, .int .i64 x2, .int .i64 x3] rfl rfl (four_new _ _ _ _ _ _) (by intro u hu; simp at hu; rcases hu with rfl | rfl | rfl | rfl <;> rfl) (by unfold maxLen; omega) (by omega) (row_alloc_base w5 _ (by omega)) (by omega) ?_)
                      intro g' cap' w6 hown hgrow hor hbg hlt3 hc1 hc2
                      have HO6 := Lib.hid hown
                      have HOR := Lib.hid hor
                      have HB8 := fun i hi => row_base I8.out.1 i hi
                      have hfs : ∀ i, fv.ownBlock = some i → i < w5.heap.size := fun i hi => by
                        obtain ⟨lvs, k1, k2, k3⟩ := P8.out w5 (Chg.refl _ _)
                        exact (row_base k2 i hi).2
                      have C6 : Hid (Chg (fun i => u8.ownBlock = some i) w5 w6) := Lib.hid (Chg.trans ((Ex.made w5 _).chg (fun i => u8.ownBlock = some i)) (Chg.grown (F := fun i => u8.ownBlock = some i) hgrow (fun i hi => hi)) (fun _ _ h => h))
                      clear hown hgrow hor hi hz0 hz1 hz2
                      go_wp2_with fail
                      go_roundw
                      case rel =>
                        refine ⟨j + 1, a' + 4, l ++ [(x0, x1, x2, x3)], by omega, ha4, by have := L7.out; simp only [List.length_append, List.length_singleton]; omega, by go_num, D8.out.chg gl C6.out (fun i hi => by have := (HB8 i hi).1; omega), fun W' hW' => P8.out W' ((C6.out.weak (G := fun i => i = w.heap.size + 1 + 1 + 1 ∨ fbk ≤ i) (fun i _ h => .inr (HB8 i h).1)).trans hW' (fun _ _ h => h)), F8.out.chg C6.out (fun h => O7.out _ h rfl), ⟨?_, ?_⟩, ?_, ?_⟩
                        · have := HO6.out
                          rw [cells4_append, cells4_one, List.length_append]
                          exact this
                        · intro q hq e
                          cases hq
                          rcases HOR.out with h | h
                          · exact I8.out.2 _ h e
                          · have h5 := hfs _ e
                            dsimp only at h5
                            omega
                        · intro q hq e
                          cases hq
                          rcases HOR.out with h | h
                          · exact O7.out _ h e
                          · dsimp only at e
                            omega
                        · rw [show s.toNat - (j + 1) = k2 by have := HK2.out; omega]
                          exact R8.out
                      case measure => simp [intOf]; omega
                  · have hje : (j : Int) = s := by omega
                    have HJ := Lib.hid hje
                    have hj2 : ¬ (j : Int) < s := hlt2
                    clear hje q0 q1 q2 fl
                    have pF : wr.cell? ⟨w.heap.size, 1, none⟩ = some fv := D7.out.p.cell 1
                    have pS := D7.out.p.soft 1
                    have hwz : w.heap.size + 4 ≤ wr.heap.size := by have := D7.out.r.lt; omega
                    have hal : acc.length ≤ 16 := by have := HC.out; omega
                    have FR := Lib.hid (funcsA_step RR.out HK.out hend HS.out s1 s2 R7.out HJ.out)
                    obtain ⟨sa, sn, sc, rfl⟩ : ∃ a n c, u8 = .slice a n c := by
                      rcases row_shape I7.out.1 with ⟨h, -⟩ | ⟨g, cap, h, -⟩
                      · exact ⟨_, _, _, h⟩
                      · exact ⟨_, _, _, h⟩
                    go_upto_region 13 with fail
                    obtain ⟨lvs, k1, k2, k3⟩ := P7.out wr (Chg.refl _ _)
                    have K1 := Lib.hid k1
                    have K2 := Lib.hid k2
                    have K3 := Lib.hid k3
                    clear k1 k2 k3
                    obtain ⟨i0, hi, hz0, hz1, hz2⟩ := info_parts info_row
                    go_wp2_with (at_builtin; refine wpList_append_mine _ rfl (.tmp 39) (.tmp 41) 22 rfl (w.heap.size + 4) 30 i0 (.slice none 0 0) 1 24 Try.underlying22 hi hz0 hz1 hz2 rfl (by decide) _ _ _ rfl (K2.out.alloc _) ⟨wr.heap.size, 0, none⟩ 1 1 [.slice sa sn sc] rfl rfl (one_new _ _ _) (one_cell rfl) (by unfold maxLen; omega) (by omega) (row_alloc_base wr _ (by omega)) (by omega) ?_)
                    intro g' cap' w6 hown hgrow hor hbg hlt3 hc1 hc2
                    have C6 : Hid (Chg (fun i => fv.ownBlock = some i) wr w6) := Lib.hid (Chg.trans ((Ex.made wr _).chg (fun i => fv.ownBlock = some i)) (Chg.grown (F := fun i => fv.ownBlock = some i) hgrow (fun i hi => hi)) (fun _ _ h => h))
                    have hor' : fv.ownBlock = some g' ∨ wr.heap.size ≤ g' := by
                      rcases hor with h | h
                      · exact .inl h
                      · exact .inr (by first | omega | (simp at h; omega))
                    have P9 := Lib.hid (PRow.snoc2 K1.out K2.out K3.out ⟨row_weak' I7.out.1 (by omega), I7.out.2⟩ hown C6.out hor')
                    have HF := fun i hi => row_base K2.out i hi
                    have D9 := Lib.hid (D7.out.chg gl C6.out (fun i hi => (HF i hi).1))
                    clear hown hgrow hor hor' hi hz0 hz1 hz2 pF pS K1 K2 K3
                    have pF : w6.cell? ⟨w.heap.size, 1, none⟩ = some fv := D9.out.p.cell 1
                    have pS := D9.out.p.soft 1
                    go_wp2_with fail
                    go_roundw
                    case rel =>
                      have d := D9.out
                      exact ⟨c + 1, a', acc ++ [l], .slice (some ⟨g', 0, none⟩) (acc.length + 1) cap', by omega, by omega, by have := HC.out; simp; omega, by go_num,
                        ⟨d.p.put 1 _, d.e.put_other (by omega) 1 _, d.t.put_other (by omega) 1 _, d.r.put_other (by omega) 1 _, d.b.chg (Chg.cell (F := fun i => i = w.heap.size) w6 ⟨w.heap.size, 1, none⟩ _ rfl) (by omega), Below.trans d.x ((Chg.cell (F := fun i => i = w.heap.size) w6 ⟨w.heap.size, 1, none⟩ _ rfl).below d.x.size (fun i hi => by subst hi; omega))⟩,
                        P9.out.chg (Chg.cell (F := fun i => i = w.heap.size) w6 ⟨w.heap.size, 1, none⟩ _ rfl) (fun i hi _ e => by omega), by rw [show n.toNat - (c + 1) = k by have := HK.out; omega]; exact FR.out⟩
                    case measure => simp [intOf]; omega
          · clear hnx
            have hE : decD bs = .error bs.length := by
              rw [HD.out, ← RR.out, HK.out, funcsA, if_pos hend]
              rfl
            have KN : Hid (∀ W, Ex wr W → Calls Try.prog 19 #[.pointer (some ⟨w.heap.size + 1 + 1 + 1, 0, none⟩), .int .i64 1, .int .i64 64] W fun e w' => e = thrown bs.length ∧ Ex wr w') := Lib.hid (by
              intro W hW
              refine (next_any a (DD.out.ex hW).b (DD.out.ex hW).r (by omega) 1 64).mono ?_
              rintro e w' (⟨h1, rfl, hx⟩ | ⟨h1, h2, rfl, hx⟩ | ⟨h1, h2, -⟩)
              · exact ⟨rfl, hW.trans hx⟩
              · exact absurd h1 hend
              · exact absurd h1 hend)
            refine wp_pan w.heap.size (fun c W => c = [{ v := badV (bs.length : Nat), recovered := false }] ∧ Ex wr W) ?_ ?_
            · rintro c' ⟨tm, df⟩ W ⟨rfl, hx⟩ ⟨s2, s3, s4, rfl⟩
              have D5 := DD.out.ex hx
              have := fin_bad (p := bs.length) tm s2 s3 s4 D5.p D5.e D5.t D5.x
              rw [← hE] at this
              exact this
            refine wp_region_held_drew (S := fun w' => w'.cell? ⟨w.heap.size, 0, none⟩ = some (.int .i64 g)) (by kernel_rfl) ?_ (fun hHeld => ?_)
            · go_keep
            refine wpAnyH_take (i := 0) (v := ?_) rfl (by kernel_rfl) (by kernel_rfl) (by kernel_rfl) (fun _ _ _ h => ⟨h.1, slots_put h.2 (by omega)⟩) (Or.inl ⟨by rfl, ?_⟩) (by assumption) ?_
            rotate_left
            · intro w hSw; (try dsimp only at hSw); go_simp; try with_reducible rfl
            try simp only [Act.put, List.setIfInBounds_toArray, List.set_cons_zero, List.set_cons_succ]
            refine wpAnyH_take (i := 1) (v := ?_) rfl (by kernel_rfl) (by kernel_rfl) (by kernel_rfl) (fun _ _ _ h => ⟨h.1, slots_put h.2 (by omega)⟩) (Or.inl ⟨by rfl, ?_⟩) (by assumption) ?_
            rotate_left
            · intro w hSw; (try dsimp only at hSw); go_simp; try with_reducible rfl
            try simp only [Act.put, List.setIfInBounds_toArray, List.set_cons_zero, List.set_cons_succ]
            refine wpAnyH_take (i := 2) (v := ?_) rfl (by kernel_rfl) (by kernel_rfl) (by kernel_rfl) (fun _ _ _ h => ⟨h.1, slots_put h.2 (by omega)⟩) (Or.inl ⟨by rfl, ?_⟩) (by assumption) ?_
            rotate_left
            · intro w hSw; (try dsimp only at hSw); go_simp; try with_reducible rfl
            try simp only [Act.put, List.setIfInBounds_toArray, List.set_cons_zero, List.set_cons_succ]
            refine wpAnyH_take (i := 3) (v := ?_) rfl (by kernel_rfl) (by kernel_rfl) (by kernel_rfl) (fun _ _ _ h => ⟨h.1, slots_put h.2 (by omega)⟩) (Or.inl ⟨by rfl, ?_⟩) (by assumption) ?_
            rotate_left
            · intro w hSw; (try dsimp only at hSw); go_simp; try with_reducible rfl
            try simp only [Act.put, List.setIfInBounds_toArray, List.set_cons_zero, List.set_cons_succ]
            refine wpAnyH_ready (rs := [4, 6]) (by kernel_rfl) (by simp) ?_
            refine AllReadyH.cons rfl (fun K hK => ?_) (AllReadyH.cons rfl (fun K hK => ?_) AllReadyH.nil)
            · go_simp
              go_at_call 19
              (with_reducible refine (KN.out _ (ex_drew wr)).mono ?_)
              rintro e w5 ⟨rfl, h5⟩
              exact ⟨⟨rfl, h5⟩, rfl, rfl, rfl, rfl⟩
            · go_simp
              refine hK.out _ _ ?_ (fun hHeld => ?_)
              · go_keep
              clear hK K
              try simp only [Act.put, List.setIfInBounds_toArray, List.set_cons_zero, List.set_cons_succ]
              refine wpAnyH_ready (rs := [4]) (by kernel_rfl) (by simp) ?_
              refine AllReadyH.cons rfl (fun K hK => ?_) AllReadyH.nil
              go_simp
              go_at_call 19
              (with_reducible refine (KN.out _ ((Ex.made wr _).trans (ex_drew _))).mono ?_)
              rintro e w5 ⟨rfl, h5⟩
              exact ⟨⟨rfl, h5⟩, rfl, rfl, rfl, rfl⟩
        · have hcn2 : (c : Int) = n := by omega
          have HCN := Lib.hid hcn2
          have hge : ¬ (c : Int) < n := hlt
          have hfin : r = .ok (acc, a) := by
            rw [← RR.out, show n.toNat - c = 0 by omega]
            rfl
          have HF := Lib.hid hfin
          have r1 : wr.cell? ⟨w.heap.size + 1 + 1 + 1, 1, none⟩ = some (.int .i64 (a : Int)) := DD.out.r.cell 1
          clear hfin hcn2
          by_cases hend : a < bs.length
          · have t1 : decide (a < bs.length) = true := by simp [hend]
            have hE : decD bs = .error a := by
              rw [HD.out, HF.out, finD, if_pos hend]
            have HE := Lib.hid hE
            clear hE
            go_wp2_with fail
            have d := DD.out
            exact fin_bad' HE.out _ rfl rfl rfl d.p d.e d.t d.x
          · have t1 : decide (a < bs.length) = false := by simp; omega
            have hE : decD bs = .ok (g, acc) := by
              rw [HD.out, HF.out, finD, if_neg hend]
            have HE := Lib.hid hE
            have p0 : wr.cell? ⟨w.heap.size, 0, none⟩ = some (.int .i64 g) := DD.out.p.cell 0
            have p1 : wr.cell? ⟨w.heap.size, 1, none⟩ = some fv := DD.out.p.cell 1
            have p2 : wr.cell? ⟨w.heap.size + 1, 0, none⟩ = some (.int .i64 0) := DD.out.e.cell 0
            have p3 : wr.cell? ⟨w.heap.size + 1 + 1, 0, none⟩ = some (.int .i64 0) := DD.out.t.cell 0
            have f0 := DD.out.p.soft 0
            have f1 := DD.out.p.soft 1
            have f2 := DD.out.e.soft 0
            have f3 := DD.out.t.soft 0
            have hsh : ∃ a n c, fv = .slice a n c := by
              obtain ⟨lvs, k1, k2, k3⟩ := PP.out
              rcases row_shape k2 with ⟨h, -⟩ | ⟨g, cap, h, -⟩
              · exact ⟨_, _, _, h⟩
              · exact ⟨_, _, _, h⟩
            obtain ⟨sa, sn, sc, rfl⟩ := hsh
            clear hE
            go_wp2_with fail
            have d := DD.out
            have cw := (((Chg.cell (F := fun i => i = w.heap.size ∨ i = w.heap.size + 1 ∨ i = w.heap.size + 1 + 1) wr ⟨w.heap.size, 0, none⟩ (.int .i64 g) (.inl rfl)).trans (Chg.cell (F := fun i => i = w.heap.size ∨ i = w.heap.size + 1 ∨ i = w.heap.size + 1 + 1) _ ⟨w.heap.size, 1, none⟩ (.slice sa sn sc) (.inl rfl)) (fun _ _ h => h)).trans (Chg.cell (F := fun i => i = w.heap.size ∨ i = w.heap.size + 1 ∨ i = w.heap.size + 1 + 1) _ ⟨w.heap.size + 1, 0, none⟩ (.int .i64 0) (.inr (.inl rfl))) (fun _ _ h => h)).trans (Chg.cell (F := fun i => i = w.heap.size ∨ i = w.heap.size + 1 ∨ i = w.heap.size + 1 + 1) _ ⟨w.heap.size + 1 + 1, 0, none⟩ (.int .i64 0) (.inr (.inr rfl))) (fun _ _ h => h)
            refine fin_ok (fv := .slice sa sn sc) HE.out _ rfl rfl rfl ?_ ?_ ?_ ?_ ?_
            · exact (((d.p.put 0 _).put 1 _).put_other (by omega) 0 _).put_other (by omega) 0 _
            · exact (((d.e.put_other (by omega) 0 _).put_other (by omega) 1 _).put 0 _).put_other (by omega) 0 _
            · exact (((d.t.put_other (by omega) 0 _).put_other (by omega) 1 _).put_other (by omega) 0 _).put 0 _
            · exact Below.trans d.x (cw.below d.x.size (fun i hi => by omega))
            · intro W' hW'
              exact RdP.of ((PP.out.chg cw (fun i hi _ e => by omega)).chg (hW'.chg (fun _ => False)) (fun _ _ _ h => h))

end Go.Proofs.Ytmajnjbjoagihaa
