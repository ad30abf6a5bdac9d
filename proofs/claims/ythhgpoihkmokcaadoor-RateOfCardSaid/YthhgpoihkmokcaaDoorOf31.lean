/- Package rate: Of; RateOf. -/
import Derived.Test.YthhgpoihkmokcaaDoorMostW31
import Derived.Test.YthhgpoihkmokcaaDoorRefW31
import Derived.Deep.RegionHeld3
namespace Go.Proofs.YthhgpoihkmokcaaDoor
open Go.RowKit Ieee
set_option linter.unusedVariables false
set_option linter.unusedSimpArgs false

/-- The first one of the greatest. -/
def headW (l : List Nat) : Nat := (mostF 1 l).getD 0 0

theorem head_key : ∀ {l m : List Nat}, l.map key = m.map key → 0 < l.length → key (l.getD 0 0) = key (m.getD 0 0)
  | [], _, _, h0 => by simp at h0
  | x :: l, [], h, _ => by simp at h
  | x :: l, y :: m, h, _ => by
    simp only [List.map_cons, List.cons.injEq] at h
    simpa using h.1

set_option maxRecDepth 20000 in
set_option maxHeartbeats 6400000 in
theorem of_any {a : Option Addr} {n : Nat} (cap : Nat) {l : List Nat} (k1 k2 k3 k4 : Int) (w : World) (h : Fs w a n l) (hn : n ≤ 60) :
    Calls Tryd.prog 27 #[.int .i64 k1, .int .i64 k2, .int .i64 k3, .int .i64 k4, .slice a n cap] w fun e w' => (∃ u g m p, e = .returned (.agg #[.float .f64 u, .float .f64 g, .float .f64 m, .float .f64 p]) ∧
      key u = key (quoW (floatOfInt .f64 k1) (floatOfInt .f64 k2)) ∧ key g = key (quoW (floatOfInt .f64 k4) (floatOfInt .f64 k3)) ∧ key m = key (meanW l) ∧ key p = key (headW l)) ∧ Ex w w' := by
  have H := Lib.hid h
  have N200 : Hid (n ≤ 200) := Lib.hid (by omega)
  clear h hn
  go_enter Tryd.func27, Tryd.ntmps27
  go_upto_region 1 with fail
  have E0 := Lib.hid (Ex.made w (.cells #[.float .f64 0, .float .f64 0, .float .f64 0, .float .f64 0] 43))
  have B0 := Lib.hid (Box.fresh w #[.float .f64 0, .float .f64 0, .float .f64 0, .float .f64 0] 43)
  obtain ⟨rb, hrb⟩ : ∃ b, w.heap.size = b := ⟨_, rfl⟩
  rw [hrb] at B0 ⊢
  have RB : Hid (w.heap.size ≤ rb) := Lib.hid (by omega)
  obtain ⟨W, hW⟩ : ∃ W, W = w.alloc (.cells #[.float .f64 0, .float .f64 0, .float .f64 0, .float .f64 0] 43) := ⟨_, rfl⟩
  rw [← hW] at E0 B0 ⊢
  clear hW
  go_wp2_with fail
  refine (share_any W k1 k2).mono ?_
  rintro e w1 ⟨⟨u, rfl, hu⟩, hx⟩
  have U := Lib.hid hu
  have E1 := Lib.hid (E0.out.trans hx)
  have B1 := Lib.hid (B0.out.ex hx)
  clear hu hx E0 B0
  go_wp2_with fail
  refine (share_any w1 k4 k3).mono ?_
  rintro e w2 ⟨⟨g, rfl, hg⟩, hx⟩
  have G := Lib.hid hg
  have E2 := Lib.hid (E1.out.trans hx)
  have B2 := Lib.hid (B1.out.ex hx)
  clear hg hx E1 B1
  go_wp2_with fail
  refine (mean_any cap (H.out.ex E2.out) N200.out).mono ?_
  rintro e w3 ⟨⟨m, rfl, hm⟩, hx⟩
  have M := Lib.hid hm
  have E3 := Lib.hid (E2.out.trans hx)
  have B3 := Lib.hid (B2.out.ex hx)
  clear hm hx E2 B2
  have hst := fun (w : World) (a : Addr) (m : Mode) (x : Nat) => run_store Tryd.prog w a (.float .f64 x) m rfl
  go_upto_region 2 with fail
  have hx := Ex.made w3 (.cells #[.float .f64 u, .float .f64 g, .float .f64 m, .float .f64 0] 43)
  have hb := Box.fresh w3 #[.float .f64 u, .float .f64 g, .float .f64 m, .float .f64 0] 43
  have hlt := B3.out.lt
  obtain ⟨tb, htb⟩ : ∃ b, w3.heap.size = b := ⟨_, rfl⟩
  rw [htb] at hb hlt ⊢
  obtain ⟨V, hV⟩ : ∃ W, W = w3.alloc (.cells #[.float .f64 u, .float .f64 g, .float .f64 m, .float .f64 0] 43) := ⟨_, rfl⟩
  rw [← hV] at hx hb ⊢
  have E4 := Lib.hid (E3.out.trans hx)
  have B4 := Lib.hid (B3.out.ex hx)
  have T4 := Lib.hid hb
  have HNE : Hid (rb ≠ tb) := Lib.hid (by omega)
  have RBS : Hid (w.heap.size ≤ rb ∧ w.heap.size ≤ tb) := Lib.hid ⟨RB.out, by have := RB.out; omega⟩
  clear hV hx hb hlt E3 B3 htb hrb
  go_wp2_with fail
  refine (most_any cap (H.out.ex E4.out) N200.out 1 1 rfl).mono ?_
  rintro e w5 ⟨v, rfl, hrow, hx⟩
  have E5 := Lib.hid (E4.out.trans hx)
  have B5 := Lib.hid (B4.out.ex hx)
  have T5 := Lib.hid (T4.out.ex hx)
  obtain ⟨va, vc, rfl, hF⟩ := hrow.fs
  obtain ⟨p, hp⟩ : ∃ p, headW l = p := ⟨_, rfl⟩
  have HP := Lib.hid hp
  have hlen : (mostF 1 l).length = 0 ∨ (mostF 1 l).length = 1 := by
    have := (most_laws 1 l).2.1
    omega
  have rbs : w.heap.size ≤ rb ∧ w.heap.size ≤ tb := RBS.out
  clear hx hrow E4 B4 T4
  rcases hlen with h0 | h1
  · have hp0 : p = 0 := by
      rw [← hp, headW, List.eq_nil_of_length_eq_zero h0]; rfl
    subst hp0
    rw [h0]
    have t0 := T5.out.cell 0
    have t1 := T5.out.cell 1
    have t2 := T5.out.cell 2
    have t3 := T5.out.cell 3
    have b0 := B5.out.cell 0
    have b1 := B5.out.cell 1
    have b2 := B5.out.cell 2
    have b3 := B5.out.cell 3
    have s0 := B5.out.soft 0
    have s1 := B5.out.soft 1
    have s2 := B5.out.soft 2
    have s3 := B5.out.soft 3
    clear hF hp h0
    go_wp2_with fail
    have hb := (((B5.out.put 0 (.float .f64 u)).put 1 (.float .f64 g)).put 2 (.float .f64 m)).put 3 (.float .f64 0)
    have he := (((E5.out.setCell (p := ⟨rb, 0, none⟩) rbs.1 (.float .f64 u)).setCell (p := ⟨rb, 1, none⟩) rbs.1 (.float .f64 g)).setCell (p := ⟨rb, 2, none⟩) rbs.1 (.float .f64 m)).setCell (p := ⟨rb, 3, none⟩) rbs.1 (.float .f64 0)
    obtain ⟨Z, hZ⟩ : ∃ Z, Z = (((w5.setCell ⟨rb, 0, none⟩ (.float .f64 u)).setCell ⟨rb, 1, none⟩ (.float .f64 g)).setCell ⟨rb, 2, none⟩ (.float .f64 m)).setCell ⟨rb, 3, none⟩ (.float .f64 0) := ⟨_, rfl⟩
    rw [← hZ] at hb he ⊢
    have EZ : Hid (Ex w Z) := Lib.hid he
    have hbz : Box Z rb #[.float .f64 u, .float .f64 g, .float .f64 m, .float .f64 0] 43 := hb
    have r0 := hbz.cell 0
    have r1 := hbz.cell 1
    have r2 := hbz.cell 2
    have r3 := hbz.cell 3
    clear hZ hb he b0 b1 b2 b3 t0 t1 t2 t3 r0 r1 r2 r3
    exact bodyPost_ret (results_cell_row rfl _ _ rb 43 #[.float .f64 u, .float .f64 g, .float .f64 m, .float .f64 0] (0, 0) _ rfl hbz Tryd.underlying43 rfl (by kernel_rfl)) rfl ⟨⟨u, g, m, 0, rfl, U.out, G.out, M.out, congrArg key HP.out.symm⟩, EZ.out⟩
  · have hp1 : mostF 1 l = [p] := by
      match hm : mostF 1 l, h1 with
      | [x], _ => rw [← hp, headW, hm]; rfl
    rw [hp1] at hF
    rw [h1]
    obtain ⟨g1, o1, rfl, -, hc⟩ := hF.2.resolve_left (by simp)
    have c0 : w5.cell? ⟨g1, o1 + 0, none⟩ = some (.float .f64 p) := hc 0 (by simp)
    rw [Nat.add_zero] at c0
    have t3 := T5.out.cell 3
    have s3 := T5.out.soft 3
    clear hF hp h1 hc hp1
    go_upto_region 5 with fail
    have hT : Box (w5.setCell ⟨tb, 3, none⟩ (.float .f64 p)) tb #[.float .f64 u, .float .f64 g, .float .f64 m, .float .f64 p] 43 := T5.out.put 3 (.float .f64 p)
    have hB := B5.out.put_other HNE.out 3 (.float .f64 p)
    have hE := E5.out.setCell (p := ⟨tb, 3, none⟩) rbs.2 (.float .f64 p)
    obtain ⟨Y, hY⟩ : ∃ Y, Y = w5.setCell ⟨tb, 3, none⟩ (.float .f64 p) := ⟨_, rfl⟩
    rw [← hY] at hT hB hE ⊢
    have E6 : Hid (Ex w Y) := Lib.hid hE
    have T6 := Lib.hid hT
    have B6 := Lib.hid hB
    clear hY hT hB hE c0 t3 s3
    have t0 := T6.out.cell 0
    have t1 := T6.out.cell 1
    have t2 := T6.out.cell 2
    have t3 := T6.out.cell 3
    have b0 := B6.out.cell 0
    have b1 := B6.out.cell 1
    have b2 := B6.out.cell 2
    have b3 := B6.out.cell 3
    have s0 := B6.out.soft 0
    have s1 := B6.out.soft 1
    have s2 := B6.out.soft 2
    have s3 := B6.out.soft 3
    go_wp2_with fail
    have hb := (((B6.out.put 0 (.float .f64 u)).put 1 (.float .f64 g)).put 2 (.float .f64 m)).put 3 (.float .f64 p)
    have he := (((E6.out.setCell (p := ⟨rb, 0, none⟩) rbs.1 (.float .f64 u)).setCell (p := ⟨rb, 1, none⟩) rbs.1 (.float .f64 g)).setCell (p := ⟨rb, 2, none⟩) rbs.1 (.float .f64 m)).setCell (p := ⟨rb, 3, none⟩) rbs.1 (.float .f64 p)
    have EZ : Hid (Ex w ((((Y.setCell ⟨rb, 0, none⟩ (.float .f64 u)).setCell ⟨rb, 1, none⟩ (.float .f64 g)).setCell ⟨rb, 2, none⟩ (.float .f64 m)).setCell ⟨rb, 3, none⟩ (.float .f64 p))) := Lib.hid he
    exact bodyPost_ret (results_cell_row rfl _ _ rb 43 #[.float .f64 u, .float .f64 g, .float .f64 m, .float .f64 p] (0, 0) _ rfl hb Tryd.underlying43 rfl (by kernel_rfl)) rfl ⟨⟨u, g, m, p, rfl, U.out, G.out, M.out, congrArg key HP.out.symm⟩, EZ.out⟩

--LAW
set_option maxRecDepth 20000 in
set_option maxHeartbeats 12800000 in
theorem walk_RateOf {a : Option Addr} {n : Nat} (k1 k2 k3 k4 : Int) (cap : Nat) {l : List Nat} (w : World) (h : Fs w a n l) :
    Calls Tryd.prog 9 #[.int .i64 k1, .int .i64 k2, .int .i64 k3, .int .i64 k4, .slice a n cap] w fun e w' => e = .returned (.bool true) ∧ Ex w w' := by
  by_cases hn : n ≤ 60
  · have H := Lib.hid h
    have HL : Hid (l.length = n) := Lib.hid h.1
    have i1 := Lib.hid (few_any w a n cap true (decide_eq_true hn))
    have N60 : Hid (n ≤ 60) := Lib.hid hn
    have N200 : Hid (n ≤ 200) := Lib.hid (by omega)
    clear h hn
    go_enter Tryd.func9, Tryd.ntmps9
    go_wp2_with fail
    refine i1.out.mono ?_
    rintro e w' ⟨rfl, rfl⟩
    go_wp2_with fail
    refine (of_any cap k1 k2 k3 k4 w H.out N60.out).mono ?_
    rintro e w1 ⟨⟨u, g, m, p, rfl, hu, hg, hm, hp⟩, hx⟩
    have U := Lib.hid hu
    have G := Lib.hid hg
    have M := Lib.hid hm
    have P := Lib.hid hp
    have hst := fun (w : World) (a : Addr) (m : Mode) (x : Nat) => run_store Tryd.prog w a (.float .f64 x) m rfl
    have E1 := Lib.hid hx
    clear hu hg hm hp hx
    go_upto_region 4 with fail
    have hx := Ex.made w1 (.cells #[.float .f64 u, .float .f64 g, .float .f64 m, .float .f64 p] 43)
    have hb := Box.fresh w1 #[.float .f64 u, .float .f64 g, .float .f64 m, .float .f64 p] 43
    obtain ⟨tb, htb⟩ : ∃ b, w1.heap.size = b := ⟨_, rfl⟩
    rw [htb] at hb ⊢
    obtain ⟨V, hV⟩ : ∃ W, W = w1.alloc (.cells #[.float .f64 u, .float .f64 g, .float .f64 m, .float .f64 p] 43) := ⟨_, rfl⟩
    rw [← hV] at hx hb ⊢
    have E2 := Lib.hid (E1.out.trans hx)
    have B2 := Lib.hid hb
    clear hV hx hb htb hst
    obtain ⟨N, hN⟩ : ∃ N, (min (1 : Int) n).toNat = N := ⟨_, rfl⟩
    obtain ⟨hs1, hs2⟩ := most_same 1 N HL.out hN
    have S2 : Hid ((mostF 1 l).map key = ((refL l n).take N).map key) := Lib.hid hs2
    have S1 : Hid ((mostF 1 l).length = N) := Lib.hid hs1
    have hN1 : N = 0 ∨ N = 1 := by omega
    go_wp2_with fail
    refine (rmost_any cap (H.out.ex E2.out) N200.out 1 N hN).mono ?_
    rintro e wx ⟨va, vc, rfl, hF, hx⟩
    have HXW := Lib.hid (E2.out.trans hx)
    have BX := Lib.hid (B2.out.ex hx)
    have HXX := Lib.hid (HXW.out.trans (Ex.drawn wx 1))
    have CX : Hid (∀ W, Ex wx.drew W → W.cell? ⟨tb, 0, none⟩ = some (.float .f64 u) ∧ W.cell? ⟨tb, 1, none⟩ = some (.float .f64 g) ∧ W.cell? ⟨tb, 2, none⟩ = some (.float .f64 m) ∧ W.cell? ⟨tb, 3, none⟩ = some (.float .f64 p)) := Lib.hid (fun W hW => by
      have hb := BX.out.ex ((Ex.drawn wx 1).trans hW)
      exact ⟨hb.cell 0, hb.cell 1, hb.cell 2, hb.cell 3⟩)
    have HF := Lib.hid hF
    clear hF hx hs1 hs2 hN
    change Hid (Ex w wx.drew) at HXX
    rcases hN1 with rfl | rfl
    · have hq : headW l = 0 := by
        rw [headW, List.eq_nil_of_length_eq_zero S1.out]; rfl
      have Q := Lib.hid (fun w => same_any w p 0 true (decide_eq_true (by rw [P.out, hq])))
      clear hq
      go_upto_region 8 with fail
      refine wp_region_held_drew (S := fun w' => Ex wx.drew w') (by kernel_rfl) (Ex.refl _) (fun hHeld => ?_)
      have XD0 := Lib.hid (Ex.refl wx.drew)
      generalize wx.drew = Y0 at *
      refine wpAnyH_ready (rs := [0]) (by kernel_rfl) (by simp) ?_
      refine AllReadyH.cons rfl (fun K hK => ?_) AllReadyH.nil
      go_simp
      go_at_call 11
      refine (told_any Y0).mono ?_
      rintro e Y1 ⟨rfl, hx⟩
      have hx' := XD0.out.trans hx
      refine hK.out _ _ hx' (fun hHeld => ?_)
      clear hK K
      try simp only [Act.put, List.setIfInBounds_toArray, List.set_cons_zero, List.set_cons_succ]
      have XD1 := Lib.hid hx'
      clear hx hx'
      refine wpAnyH_take (i := 1) (v := ?_) rfl (by kernel_rfl) (by kernel_rfl) (by kernel_rfl) (fun _ _ _ h => h) (Or.inl ⟨by rfl, ?_⟩) (by assumption) ?_
      rotate_left
      · intro w hSw; (try dsimp only at hSw); obtain ⟨c0, c1, c2, c3⟩ := CX.out w hSw; go_simp; try with_reducible rfl
      try simp only [Act.put, List.setIfInBounds_toArray, List.set_cons_zero, List.set_cons_succ]
      refine wpAnyH_take (i := 2) (v := ?_) rfl (by kernel_rfl) (by kernel_rfl) (by kernel_rfl) (fun _ _ _ h => h) (Or.inl ⟨by rfl, ?_⟩) (by assumption) ?_
      rotate_left
      · intro w hSw; (try dsimp only at hSw); obtain ⟨c0, c1, c2, c3⟩ := CX.out w hSw; go_simp; try with_reducible rfl
      try simp only [Act.put, List.setIfInBounds_toArray, List.set_cons_zero, List.set_cons_succ]
      refine wpAnyH_take (i := 3) (v := ?_) rfl (by kernel_rfl) (by kernel_rfl) (by kernel_rfl) (fun _ _ _ h => h) (Or.inl ⟨by rfl, ?_⟩) (by assumption) ?_
      rotate_left
      · intro w hSw; (try dsimp only at hSw); obtain ⟨c0, c1, c2, c3⟩ := CX.out w hSw; go_simp; try with_reducible rfl
      try simp only [Act.put, List.setIfInBounds_toArray, List.set_cons_zero, List.set_cons_succ]
      refine wpAnyH_take (i := 4) (v := ?_) rfl (by kernel_rfl) (by kernel_rfl) (by kernel_rfl) (fun _ _ _ h => h) (Or.inl ⟨by rfl, ?_⟩) (by assumption) ?_
      rotate_left
      · intro w hSw; (try dsimp only at hSw); obtain ⟨c0, c1, c2, c3⟩ := CX.out w hSw; go_simp; try with_reducible rfl
      try simp only [Act.put, List.setIfInBounds_toArray, List.set_cons_zero, List.set_cons_succ]
      refine wpAnyH_take (i := 5) (v := ?_) rfl (by kernel_rfl) (by kernel_rfl) (by kernel_rfl) (fun _ _ _ h => h) (Or.inl ⟨by rfl, ?_⟩) (by assumption) ?_
      rotate_left
      · intro w hSw; (try dsimp only at hSw); obtain ⟨c0, c1, c2, c3⟩ := CX.out w hSw; go_simp; try with_reducible rfl
      try simp only [Act.put, List.setIfInBounds_toArray, List.set_cons_zero, List.set_cons_succ]
      refine wpAnyH_ready (rs := [6]) (by kernel_rfl) (by simp) ?_
      refine AllReadyH.cons rfl (fun K hK => ?_) AllReadyH.nil
      go_simp
      go_at_call 14
      refine (rshare_any Y1 k1 k2).mono ?_
      rintro e Y2 ⟨⟨r1, rfl, hr1⟩, hx⟩
      have hx' := XD1.out.trans hx
      refine hK.out _ _ hx' (fun hHeld => ?_)
      clear hK K
      try simp only [Act.put, List.setIfInBounds_toArray, List.set_cons_zero, List.set_cons_succ]
      have XD2 := Lib.hid hx'
      have Sr1 := Lib.hid (fun w => same_any w u r1 true (decide_eq_true (U.out.trans hr1.symm)))
      clear hr1
      clear hx hx'
      refine wpAnyH_ready (rs := [7]) (by kernel_rfl) (by simp) ?_
      refine AllReadyH.cons rfl (fun K hK => ?_) AllReadyH.nil
      go_simp
      go_at_call 12
      refine ((Sr1.out Y2)).mono ?_
      rintro e Y3 ⟨rfl, hx0⟩; have hx : Ex Y2 Y3 := by rw [hx0]; exact Ex.refl _
      have hx' := XD2.out.trans hx
      refine hK.out _ _ hx' (fun hHeld => ?_)
      clear hK K
      try simp only [Act.put, List.setIfInBounds_toArray, List.set_cons_zero, List.set_cons_succ]
      have XD3 := Lib.hid hx'
      clear hx hx'
      refine wpAnyH_take (i := 8) (v := ?_) rfl (by kernel_rfl) (by kernel_rfl) (by kernel_rfl) (fun _ _ _ h => h) (Or.inl ⟨by rfl, ?_⟩) (by assumption) ?_
      rotate_left
      · intro w hSw; (try dsimp only at hSw); obtain ⟨c0, c1, c2, c3⟩ := CX.out w hSw; go_simp; try with_reducible rfl
      try simp only [Act.put, List.setIfInBounds_toArray, List.set_cons_zero, List.set_cons_succ]
      refine wpAnyH_take (i := 9) (v := ?_) rfl (by kernel_rfl) (by kernel_rfl) (by kernel_rfl) (fun _ _ _ h => h) (Or.inl ⟨by rfl, ?_⟩) (by assumption) ?_
      rotate_left
      · intro w hSw; (try dsimp only at hSw); obtain ⟨c0, c1, c2, c3⟩ := CX.out w hSw; go_simp; try with_reducible rfl
      try simp only [Act.put, List.setIfInBounds_toArray, List.set_cons_zero, List.set_cons_succ]
      refine wpAnyH_take (i := 10) (v := ?_) rfl (by kernel_rfl) (by kernel_rfl) (by kernel_rfl) (fun _ _ _ h => h) (Or.inl ⟨by rfl, ?_⟩) (by assumption) ?_
      rotate_left
      · intro w hSw; (try dsimp only at hSw); obtain ⟨c0, c1, c2, c3⟩ := CX.out w hSw; go_simp; try with_reducible rfl
      try simp only [Act.put, List.setIfInBounds_toArray, List.set_cons_zero, List.set_cons_succ]
      refine wpAnyH_take (i := 11) (v := ?_) rfl (by kernel_rfl) (by kernel_rfl) (by kernel_rfl) (fun _ _ _ h => h) (Or.inl ⟨by rfl, ?_⟩) (by assumption) ?_
      rotate_left
      · intro w hSw; (try dsimp only at hSw); obtain ⟨c0, c1, c2, c3⟩ := CX.out w hSw; go_simp; try with_reducible rfl
      try simp only [Act.put, List.setIfInBounds_toArray, List.set_cons_zero, List.set_cons_succ]
      refine wpAnyH_take (i := 12) (v := ?_) rfl (by kernel_rfl) (by kernel_rfl) (by kernel_rfl) (fun _ _ _ h => h) (Or.inl ⟨by rfl, ?_⟩) (by assumption) ?_
      rotate_left
      · intro w hSw; (try dsimp only at hSw); obtain ⟨c0, c1, c2, c3⟩ := CX.out w hSw; go_simp; try with_reducible rfl
      try simp only [Act.put, List.setIfInBounds_toArray, List.set_cons_zero, List.set_cons_succ]
      refine wpAnyH_take (i := 13) (v := ?_) rfl (by kernel_rfl) (by kernel_rfl) (by kernel_rfl) (fun _ _ _ h => h) (Or.inl ⟨by rfl, ?_⟩) (by assumption) ?_
      rotate_left
      · intro w hSw; (try dsimp only at hSw); obtain ⟨c0, c1, c2, c3⟩ := CX.out w hSw; go_simp; try with_reducible rfl
      try simp only [Act.put, List.setIfInBounds_toArray, List.set_cons_zero, List.set_cons_succ]
      refine wpAnyH_ready (rs := [14]) (by kernel_rfl) (by simp) ?_
      refine AllReadyH.cons rfl (fun K hK => ?_) AllReadyH.nil
      go_simp
      go_at_call 14
      refine (rshare_any Y3 k4 k3).mono ?_
      rintro e Y4 ⟨⟨r2, rfl, hr2⟩, hx⟩
      have hx' := XD3.out.trans hx
      refine hK.out _ _ hx' (fun hHeld => ?_)
      clear hK K
      try simp only [Act.put, List.setIfInBounds_toArray, List.set_cons_zero, List.set_cons_succ]
      have XD4 := Lib.hid hx'
      have Sr2 := Lib.hid (fun w => same_any w g r2 true (decide_eq_true (G.out.trans hr2.symm)))
      clear hr2
      clear hx hx'
      refine wpAnyH_ready (rs := [15]) (by kernel_rfl) (by simp) ?_
      refine AllReadyH.cons rfl (fun K hK => ?_) AllReadyH.nil
      go_simp
      go_at_call 12
      refine ((Sr2.out Y4)).mono ?_
      rintro e Y5 ⟨rfl, hx0⟩; have hx : Ex Y4 Y5 := by rw [hx0]; exact Ex.refl _
      have hx' := XD4.out.trans hx
      refine hK.out _ _ hx' (fun hHeld => ?_)
      clear hK K
      try simp only [Act.put, List.setIfInBounds_toArray, List.set_cons_zero, List.set_cons_succ]
      have XD5 := Lib.hid hx'
      clear hx hx'
      refine wpAnyH_take (i := 16) (v := ?_) rfl (by kernel_rfl) (by kernel_rfl) (by kernel_rfl) (fun _ _ _ h => h) (Or.inl ⟨by rfl, ?_⟩) (by assumption) ?_
      rotate_left
      · intro w hSw; (try dsimp only at hSw); obtain ⟨c0, c1, c2, c3⟩ := CX.out w hSw; go_simp; try with_reducible rfl
      try simp only [Act.put, List.setIfInBounds_toArray, List.set_cons_zero, List.set_cons_succ]
      refine wpAnyH_take (i := 17) (v := ?_) rfl (by kernel_rfl) (by kernel_rfl) (by kernel_rfl) (fun _ _ _ h => h) (Or.inl ⟨by rfl, ?_⟩) (by assumption) ?_
      rotate_left
      · intro w hSw; (try dsimp only at hSw); obtain ⟨c0, c1, c2, c3⟩ := CX.out w hSw; go_simp; try with_reducible rfl
      try simp only [Act.put, List.setIfInBounds_toArray, List.set_cons_zero, List.set_cons_succ]
      refine wpAnyH_take (i := 18) (v := ?_) rfl (by kernel_rfl) (by kernel_rfl) (by kernel_rfl) (fun _ _ _ h => h) (Or.inl ⟨by rfl, ?_⟩) (by assumption) ?_
      rotate_left
      · intro w hSw; (try dsimp only at hSw); obtain ⟨c0, c1, c2, c3⟩ := CX.out w hSw; go_simp; try with_reducible rfl
      try simp only [Act.put, List.setIfInBounds_toArray, List.set_cons_zero, List.set_cons_succ]
      refine wpAnyH_take (i := 19) (v := ?_) rfl (by kernel_rfl) (by kernel_rfl) (by kernel_rfl) (fun _ _ _ h => h) (Or.inl ⟨by rfl, ?_⟩) (by assumption) ?_
      rotate_left
      · intro w hSw; (try dsimp only at hSw); obtain ⟨c0, c1, c2, c3⟩ := CX.out w hSw; go_simp; try with_reducible rfl
      try simp only [Act.put, List.setIfInBounds_toArray, List.set_cons_zero, List.set_cons_succ]
      refine wpAnyH_take (i := 20) (v := ?_) rfl (by kernel_rfl) (by kernel_rfl) (by kernel_rfl) (fun _ _ _ h => h) (Or.inl ⟨by rfl, ?_⟩) (by assumption) ?_
      rotate_left
      · intro w hSw; (try dsimp only at hSw); obtain ⟨c0, c1, c2, c3⟩ := CX.out w hSw; go_simp; try with_reducible rfl
      try simp only [Act.put, List.setIfInBounds_toArray, List.set_cons_zero, List.set_cons_succ]
      refine wpAnyH_ready (rs := [21]) (by kernel_rfl) (by simp) ?_
      refine AllReadyH.cons rfl (fun K hK => ?_) AllReadyH.nil
      go_simp
      go_at_call 16
      refine (rmean_any cap (H.out.ex (HXX.out.trans XD5.out)) N200.out).mono ?_
      rintro e Y6 ⟨⟨r3, rfl, hr3⟩, hx⟩
      have hx' := XD5.out.trans hx
      refine hK.out _ _ hx' (fun hHeld => ?_)
      clear hK K
      try simp only [Act.put, List.setIfInBounds_toArray, List.set_cons_zero, List.set_cons_succ]
      have XD6 := Lib.hid hx'
      have Sr3 := Lib.hid (fun w => same_any w m r3 true (decide_eq_true (M.out.trans hr3.symm)))
      clear hr3
      clear hx hx'
      refine wpAnyH_ready (rs := [22]) (by kernel_rfl) (by simp) ?_
      refine AllReadyH.cons rfl (fun K hK => ?_) AllReadyH.nil
      go_simp
      go_at_call 12
      refine ((Sr3.out Y6)).mono ?_
      rintro e Y7 ⟨rfl, hx0⟩; have hx : Ex Y6 Y7 := by rw [hx0]; exact Ex.refl _
      have hx' := XD6.out.trans hx
      refine hK.out _ _ hx' (fun hHeld => ?_)
      clear hK K
      try simp only [Act.put, List.setIfInBounds_toArray, List.set_cons_zero, List.set_cons_succ]
      have XD7 := Lib.hid hx'
      clear hx hx'
      refine wpAnyH_take (i := 23) (v := ?_) rfl (by kernel_rfl) (by kernel_rfl) (by kernel_rfl) (fun _ _ _ h => h) (Or.inl ⟨by rfl, ?_⟩) (by assumption) ?_
      rotate_left
      · intro w hSw; (try dsimp only at hSw); obtain ⟨c0, c1, c2, c3⟩ := CX.out w hSw; go_simp; try with_reducible rfl
      try simp only [Act.put, List.setIfInBounds_toArray, List.set_cons_zero, List.set_cons_succ]
      refine wpAnyH_take (i := 24) (v := ?_) rfl (by kernel_rfl) (by kernel_rfl) (by kernel_rfl) (fun _ _ _ h => h) (Or.inl ⟨by rfl, ?_⟩) (by assumption) ?_
      rotate_left
      · intro w hSw; (try dsimp only at hSw); obtain ⟨c0, c1, c2, c3⟩ := CX.out w hSw; go_simp; try with_reducible rfl
      try simp only [Act.put, List.setIfInBounds_toArray, List.set_cons_zero, List.set_cons_succ]
      refine wpAnyH_take (i := 25) (v := ?_) rfl (by kernel_rfl) (by kernel_rfl) (by kernel_rfl) (fun _ _ _ h => h) (Or.inl ⟨by rfl, ?_⟩) (by assumption) ?_
      rotate_left
      · intro w hSw; (try dsimp only at hSw); obtain ⟨c0, c1, c2, c3⟩ := CX.out w hSw; go_simp; try with_reducible rfl
      try simp only [Act.put, List.setIfInBounds_toArray, List.set_cons_zero, List.set_cons_succ]
      refine wpAnyH_take (i := 26) (v := ?_) rfl (by kernel_rfl) (by kernel_rfl) (by kernel_rfl) (fun _ _ _ h => h) (Or.inl ⟨by rfl, ?_⟩) (by assumption) ?_
      rotate_left
      · intro w hSw; (try dsimp only at hSw); obtain ⟨c0, c1, c2, c3⟩ := CX.out w hSw; go_simp; try with_reducible rfl
      try simp only [Act.put, List.setIfInBounds_toArray, List.set_cons_zero, List.set_cons_succ]
      refine wpAnyH_take (i := 27) (v := ?_) rfl (by kernel_rfl) (by kernel_rfl) (by kernel_rfl) (fun _ _ _ h => h) (Or.inl ⟨by rfl, ?_⟩) (by assumption) ?_
      rotate_left
      · intro w hSw; (try dsimp only at hSw); obtain ⟨c0, c1, c2, c3⟩ := CX.out w hSw; go_simp; try with_reducible rfl
      try simp only [Act.put, List.setIfInBounds_toArray, List.set_cons_zero, List.set_cons_succ]
      refine wpAnyH_ready (rs := [28]) (by kernel_rfl) (by simp) ?_
      refine AllReadyH.cons rfl (fun K hK => ?_) AllReadyH.nil
      go_simp
      go_at_call 12
      refine ((Q.out Y7)).mono ?_
      rintro e Y8 ⟨rfl, hx0⟩; have hx : Ex Y7 Y8 := by rw [hx0]; exact Ex.refl _
      have hx' := XD7.out.trans hx
      refine hK.out _ _ hx' (fun hHeld => ?_)
      clear hK K
      try simp only [Act.put, List.setIfInBounds_toArray, List.set_cons_zero, List.set_cons_succ]
      have XD8 := Lib.hid hx'
      clear hx hx'
      refine wpAnyH_take (i := 29) (v := ?_) rfl (by kernel_rfl) (by kernel_rfl) (by kernel_rfl) (fun _ _ _ h => h) (Or.inl ⟨by rfl, ?_⟩) (by assumption) ?_
      rotate_left
      · intro w hSw; (try dsimp only at hSw); obtain ⟨c0, c1, c2, c3⟩ := CX.out w hSw; go_simp; try with_reducible rfl
      try simp only [Act.put, List.setIfInBounds_toArray, List.set_cons_zero, List.set_cons_succ]
      refine wpAnyH_ready (rs := [30]) (by kernel_rfl) (by simp) ?_
      refine AllReadyH.cons rfl (fun K hK => ?_) AllReadyH.nil
      go_simp
      refine hK.out _ _ XD8.out (fun hHeld => ?_)
      clear hK K
      try simp only [Act.put, List.setIfInBounds_toArray, List.set_cons_zero, List.set_cons_succ]
      refine wpAnyH_done (by kernel_rfl) ?_ _
      go_wp2_with fail
      go_ret
      exact ⟨rfl, HXX.out.trans XD8.out⟩
    · obtain ⟨b, off, rfl, -, hc⟩ := HF.out.2.resolve_left (by omega)
      obtain ⟨q, hq⟩ : ∃ q, ((refL l n).take 1).getD 0 0 = q := ⟨_, rfl⟩
      have c0 : wx.cell? ⟨b, off + 0, none⟩ = some (.float .f64 q) := hq ▸ hc 0 (by omega)
      rw [Nat.add_zero] at c0
      have hk : key (headW l) = key q := by
        rw [← hq]
        exact head_key S2.out (by rw [S1.out]; omega)
      have Q := Lib.hid (fun w => same_any w p q true (decide_eq_true (by rw [P.out, hk])))
      clear hc hq hk
      go_upto_region 8 with fail
      clear c0
      refine wp_region_held_drew (S := fun w' => Ex wx.drew w') (by kernel_rfl) (Ex.refl _) (fun hHeld => ?_)
      have XD0 := Lib.hid (Ex.refl wx.drew)
      generalize wx.drew = Y0 at *
      refine wpAnyH_ready (rs := [0]) (by kernel_rfl) (by simp) ?_
      refine AllReadyH.cons rfl (fun K hK => ?_) AllReadyH.nil
      go_simp
      go_at_call 11
      refine (told_any Y0).mono ?_
      rintro e Y1 ⟨rfl, hx⟩
      have hx' := XD0.out.trans hx
      refine hK.out _ _ hx' (fun hHeld => ?_)
      clear hK K
      try simp only [Act.put, List.setIfInBounds_toArray, List.set_cons_zero, List.set_cons_succ]
      have XD1 := Lib.hid hx'
      clear hx hx'
      refine wpAnyH_take (i := 1) (v := ?_) rfl (by kernel_rfl) (by kernel_rfl) (by kernel_rfl) (fun _ _ _ h => h) (Or.inl ⟨by rfl, ?_⟩) (by assumption) ?_
      rotate_left
      · intro w hSw; (try dsimp only at hSw); obtain ⟨c0, c1, c2, c3⟩ := CX.out w hSw; go_simp; try with_reducible rfl
      try simp only [Act.put, List.setIfInBounds_toArray, List.set_cons_zero, List.set_cons_succ]
      refine wpAnyH_take (i := 2) (v := ?_) rfl (by kernel_rfl) (by kernel_rfl) (by kernel_rfl) (fun _ _ _ h => h) (Or.inl ⟨by rfl, ?_⟩) (by assumption) ?_
      rotate_left
      · intro w hSw; (try dsimp only at hSw); obtain ⟨c0, c1, c2, c3⟩ := CX.out w hSw; go_simp; try with_reducible rfl
      try simp only [Act.put, List.setIfInBounds_toArray, List.set_cons_zero, List.set_cons_succ]
      refine wpAnyH_take (i := 3) (v := ?_) rfl (by kernel_rfl) (by kernel_rfl) (by kernel_rfl) (fun _ _ _ h => h) (Or.inl ⟨by rfl, ?_⟩) (by assumption) ?_
      rotate_left
      · intro w hSw; (try dsimp only at hSw); obtain ⟨c0, c1, c2, c3⟩ := CX.out w hSw; go_simp; try with_reducible rfl
      try simp only [Act.put, List.setIfInBounds_toArray, List.set_cons_zero, List.set_cons_succ]
      refine wpAnyH_take (i := 4) (v := ?_) rfl (by kernel_rfl) (by kernel_rfl) (by kernel_rfl) (fun _ _ _ h => h) (Or.inl ⟨by rfl, ?_⟩) (by assumption) ?_
      rotate_left
      · intro w hSw; (try dsimp only at hSw); obtain ⟨c0, c1, c2, c3⟩ := CX.out w hSw; go_simp; try with_reducible rfl
      try simp only [Act.put, List.setIfInBounds_toArray, List.set_cons_zero, List.set_cons_succ]
      refine wpAnyH_take (i := 5) (v := ?_) rfl (by kernel_rfl) (by kernel_rfl) (by kernel_rfl) (fun _ _ _ h => h) (Or.inl ⟨by rfl, ?_⟩) (by assumption) ?_
      rotate_left
      · intro w hSw; (try dsimp only at hSw); obtain ⟨c0, c1, c2, c3⟩ := CX.out w hSw; go_simp; try with_reducible rfl
      try simp only [Act.put, List.setIfInBounds_toArray, List.set_cons_zero, List.set_cons_succ]
      refine wpAnyH_ready (rs := [6]) (by kernel_rfl) (by simp) ?_
      refine AllReadyH.cons rfl (fun K hK => ?_) AllReadyH.nil
      go_simp
      go_at_call 14
      refine (rshare_any Y1 k1 k2).mono ?_
      rintro e Y2 ⟨⟨r1, rfl, hr1⟩, hx⟩
      have hx' := XD1.out.trans hx
      refine hK.out _ _ hx' (fun hHeld => ?_)
      clear hK K
      try simp only [Act.put, List.setIfInBounds_toArray, List.set_cons_zero, List.set_cons_succ]
      have XD2 := Lib.hid hx'
      have Sr1 := Lib.hid (fun w => same_any w u r1 true (decide_eq_true (U.out.trans hr1.symm)))
      clear hr1
      clear hx hx'
      refine wpAnyH_ready (rs := [7]) (by kernel_rfl) (by simp) ?_
      refine AllReadyH.cons rfl (fun K hK => ?_) AllReadyH.nil
      go_simp
      go_at_call 12
      refine ((Sr1.out Y2)).mono ?_
      rintro e Y3 ⟨rfl, hx0⟩; have hx : Ex Y2 Y3 := by rw [hx0]; exact Ex.refl _
      have hx' := XD2.out.trans hx
      refine hK.out _ _ hx' (fun hHeld => ?_)
      clear hK K
      try simp only [Act.put, List.setIfInBounds_toArray, List.set_cons_zero, List.set_cons_succ]
      have XD3 := Lib.hid hx'
      clear hx hx'
      refine wpAnyH_take (i := 8) (v := ?_) rfl (by kernel_rfl) (by kernel_rfl) (by kernel_rfl) (fun _ _ _ h => h) (Or.inl ⟨by rfl, ?_⟩) (by assumption) ?_
      rotate_left
      · intro w hSw; (try dsimp only at hSw); obtain ⟨c0, c1, c2, c3⟩ := CX.out w hSw; go_simp; try with_reducible rfl
      try simp only [Act.put, List.setIfInBounds_toArray, List.set_cons_zero, List.set_cons_succ]
      refine wpAnyH_take (i := 9) (v := ?_) rfl (by kernel_rfl) (by kernel_rfl) (by kernel_rfl) (fun _ _ _ h => h) (Or.inl ⟨by rfl, ?_⟩) (by assumption) ?_
      rotate_left
      · intro w hSw; (try dsimp only at hSw); obtain ⟨c0, c1, c2, c3⟩ := CX.out w hSw; go_simp; try with_reducible rfl
      try simp only [Act.put, List.setIfInBounds_toArray, List.set_cons_zero, List.set_cons_succ]
      refine wpAnyH_take (i := 10) (v := ?_) rfl (by kernel_rfl) (by kernel_rfl) (by kernel_rfl) (fun _ _ _ h => h) (Or.inl ⟨by rfl, ?_⟩) (by assumption) ?_
      rotate_left
      · intro w hSw; (try dsimp only at hSw); obtain ⟨c0, c1, c2, c3⟩ := CX.out w hSw; go_simp; try with_reducible rfl
      try simp only [Act.put, List.setIfInBounds_toArray, List.set_cons_zero, List.set_cons_succ]
      refine wpAnyH_take (i := 11) (v := ?_) rfl (by kernel_rfl) (by kernel_rfl) (by kernel_rfl) (fun _ _ _ h => h) (Or.inl ⟨by rfl, ?_⟩) (by assumption) ?_
      rotate_left
      · intro w hSw; (try dsimp only at hSw); obtain ⟨c0, c1, c2, c3⟩ := CX.out w hSw; go_simp; try with_reducible rfl
      try simp only [Act.put, List.setIfInBounds_toArray, List.set_cons_zero, List.set_cons_succ]
      refine wpAnyH_take (i := 12) (v := ?_) rfl (by kernel_rfl) (by kernel_rfl) (by kernel_rfl) (fun _ _ _ h => h) (Or.inl ⟨by rfl, ?_⟩) (by assumption) ?_
      rotate_left
      · intro w hSw; (try dsimp only at hSw); obtain ⟨c0, c1, c2, c3⟩ := CX.out w hSw; go_simp; try with_reducible rfl
      try simp only [Act.put, List.setIfInBounds_toArray, List.set_cons_zero, List.set_cons_succ]
      refine wpAnyH_take (i := 13) (v := ?_) rfl (by kernel_rfl) (by kernel_rfl) (by kernel_rfl) (fun _ _ _ h => h) (Or.inl ⟨by rfl, ?_⟩) (by assumption) ?_
      rotate_left
      · intro w hSw; (try dsimp only at hSw); obtain ⟨c0, c1, c2, c3⟩ := CX.out w hSw; go_simp; try with_reducible rfl
      try simp only [Act.put, List.setIfInBounds_toArray, List.set_cons_zero, List.set_cons_succ]
      refine wpAnyH_ready (rs := [14]) (by kernel_rfl) (by simp) ?_
      refine AllReadyH.cons rfl (fun K hK => ?_) AllReadyH.nil
      go_simp
      go_at_call 14
      refine (rshare_any Y3 k4 k3).mono ?_
      rintro e Y4 ⟨⟨r2, rfl, hr2⟩, hx⟩
      have hx' := XD3.out.trans hx
      refine hK.out _ _ hx' (fun hHeld => ?_)
      clear hK K
      try simp only [Act.put, List.setIfInBounds_toArray, List.set_cons_zero, List.set_cons_succ]
      have XD4 := Lib.hid hx'
      have Sr2 := Lib.hid (fun w => same_any w g r2 true (decide_eq_true (G.out.trans hr2.symm)))
      clear hr2
      clear hx hx'
      refine wpAnyH_ready (rs := [15]) (by kernel_rfl) (by simp) ?_
      refine AllReadyH.cons rfl (fun K hK => ?_) AllReadyH.nil
      go_simp
      go_at_call 12
      refine ((Sr2.out Y4)).mono ?_
      rintro e Y5 ⟨rfl, hx0⟩; have hx : Ex Y4 Y5 := by rw [hx0]; exact Ex.refl _
      have hx' := XD4.out.trans hx
      refine hK.out _ _ hx' (fun hHeld => ?_)
      clear hK K
      try simp only [Act.put, List.setIfInBounds_toArray, List.set_cons_zero, List.set_cons_succ]
      have XD5 := Lib.hid hx'
      clear hx hx'
      refine wpAnyH_take (i := 16) (v := ?_) rfl (by kernel_rfl) (by kernel_rfl) (by kernel_rfl) (fun _ _ _ h => h) (Or.inl ⟨by rfl, ?_⟩) (by assumption) ?_
      rotate_left
      · intro w hSw; (try dsimp only at hSw); obtain ⟨c0, c1, c2, c3⟩ := CX.out w hSw; go_simp; try with_reducible rfl
      try simp only [Act.put, List.setIfInBounds_toArray, List.set_cons_zero, List.set_cons_succ]
      refine wpAnyH_take (i := 17) (v := ?_) rfl (by kernel_rfl) (by kernel_rfl) (by kernel_rfl) (fun _ _ _ h => h) (Or.inl ⟨by rfl, ?_⟩) (by assumption) ?_
      rotate_left
      · intro w hSw; (try dsimp only at hSw); obtain ⟨c0, c1, c2, c3⟩ := CX.out w hSw; go_simp; try with_reducible rfl
      try simp only [Act.put, List.setIfInBounds_toArray, List.set_cons_zero, List.set_cons_succ]
      refine wpAnyH_take (i := 18) (v := ?_) rfl (by kernel_rfl) (by kernel_rfl) (by kernel_rfl) (fun _ _ _ h => h) (Or.inl ⟨by rfl, ?_⟩) (by assumption) ?_
      rotate_left
      · intro w hSw; (try dsimp only at hSw); obtain ⟨c0, c1, c2, c3⟩ := CX.out w hSw; go_simp; try with_reducible rfl
      try simp only [Act.put, List.setIfInBounds_toArray, List.set_cons_zero, List.set_cons_succ]
      refine wpAnyH_take (i := 19) (v := ?_) rfl (by kernel_rfl) (by kernel_rfl) (by kernel_rfl) (fun _ _ _ h => h) (Or.inl ⟨by rfl, ?_⟩) (by assumption) ?_
      rotate_left
      · intro w hSw; (try dsimp only at hSw); obtain ⟨c0, c1, c2, c3⟩ := CX.out w hSw; go_simp; try with_reducible rfl
      try simp only [Act.put, List.setIfInBounds_toArray, List.set_cons_zero, List.set_cons_succ]
      refine wpAnyH_take (i := 20) (v := ?_) rfl (by kernel_rfl) (by kernel_rfl) (by kernel_rfl) (fun _ _ _ h => h) (Or.inl ⟨by rfl, ?_⟩) (by assumption) ?_
      rotate_left
      · intro w hSw; (try dsimp only at hSw); obtain ⟨c0, c1, c2, c3⟩ := CX.out w hSw; go_simp; try with_reducible rfl
      try simp only [Act.put, List.setIfInBounds_toArray, List.set_cons_zero, List.set_cons_succ]
      refine wpAnyH_ready (rs := [21]) (by kernel_rfl) (by simp) ?_
      refine AllReadyH.cons rfl (fun K hK => ?_) AllReadyH.nil
      go_simp
      go_at_call 16
      refine (rmean_any cap (H.out.ex (HXX.out.trans XD5.out)) N200.out).mono ?_
      rintro e Y6 ⟨⟨r3, rfl, hr3⟩, hx⟩
      have hx' := XD5.out.trans hx
      refine hK.out _ _ hx' (fun hHeld => ?_)
      clear hK K
      try simp only [Act.put, List.setIfInBounds_toArray, List.set_cons_zero, List.set_cons_succ]
      have XD6 := Lib.hid hx'
      have Sr3 := Lib.hid (fun w => same_any w m r3 true (decide_eq_true (M.out.trans hr3.symm)))
      clear hr3
      clear hx hx'
      refine wpAnyH_ready (rs := [22]) (by kernel_rfl) (by simp) ?_
      refine AllReadyH.cons rfl (fun K hK => ?_) AllReadyH.nil
      go_simp
      go_at_call 12
      refine ((Sr3.out Y6)).mono ?_
      rintro e Y7 ⟨rfl, hx0⟩; have hx : Ex Y6 Y7 := by rw [hx0]; exact Ex.refl _
      have hx' := XD6.out.trans hx
      refine hK.out _ _ hx' (fun hHeld => ?_)
      clear hK K
      try simp only [Act.put, List.setIfInBounds_toArray, List.set_cons_zero, List.set_cons_succ]
      have XD7 := Lib.hid hx'
      clear hx hx'
      refine wpAnyH_take (i := 23) (v := ?_) rfl (by kernel_rfl) (by kernel_rfl) (by kernel_rfl) (fun _ _ _ h => h) (Or.inl ⟨by rfl, ?_⟩) (by assumption) ?_
      rotate_left
      · intro w hSw; (try dsimp only at hSw); obtain ⟨c0, c1, c2, c3⟩ := CX.out w hSw; go_simp; try with_reducible rfl
      try simp only [Act.put, List.setIfInBounds_toArray, List.set_cons_zero, List.set_cons_succ]
      refine wpAnyH_take (i := 24) (v := ?_) rfl (by kernel_rfl) (by kernel_rfl) (by kernel_rfl) (fun _ _ _ h => h) (Or.inl ⟨by rfl, ?_⟩) (by assumption) ?_
      rotate_left
      · intro w hSw; (try dsimp only at hSw); obtain ⟨c0, c1, c2, c3⟩ := CX.out w hSw; go_simp; try with_reducible rfl
      try simp only [Act.put, List.setIfInBounds_toArray, List.set_cons_zero, List.set_cons_succ]
      refine wpAnyH_take (i := 25) (v := ?_) rfl (by kernel_rfl) (by kernel_rfl) (by kernel_rfl) (fun _ _ _ h => h) (Or.inl ⟨by rfl, ?_⟩) (by assumption) ?_
      rotate_left
      · intro w hSw; (try dsimp only at hSw); obtain ⟨c0, c1, c2, c3⟩ := CX.out w hSw; go_simp; try with_reducible rfl
      try simp only [Act.put, List.setIfInBounds_toArray, List.set_cons_zero, List.set_cons_succ]
      refine wpAnyH_take (i := 26) (v := ?_) rfl (by kernel_rfl) (by kernel_rfl) (by kernel_rfl) (fun _ _ _ h => h) (Or.inl ⟨by rfl, ?_⟩) (by assumption) ?_
      rotate_left
      · intro w hSw; (try dsimp only at hSw); obtain ⟨c0, c1, c2, c3⟩ := CX.out w hSw; go_simp; try with_reducible rfl
      try simp only [Act.put, List.setIfInBounds_toArray, List.set_cons_zero, List.set_cons_succ]
      refine wpAnyH_take (i := 27) (v := ?_) rfl (by kernel_rfl) (by kernel_rfl) (by kernel_rfl) (fun _ _ _ h => h) (Or.inl ⟨by rfl, ?_⟩) (by assumption) ?_
      rotate_left
      · intro w hSw; (try dsimp only at hSw); obtain ⟨c0, c1, c2, c3⟩ := CX.out w hSw; go_simp; try with_reducible rfl
      try simp only [Act.put, List.setIfInBounds_toArray, List.set_cons_zero, List.set_cons_succ]
      refine wpAnyH_ready (rs := [28]) (by kernel_rfl) (by simp) ?_
      refine AllReadyH.cons rfl (fun K hK => ?_) AllReadyH.nil
      go_simp
      go_at_call 12
      refine ((Q.out Y7)).mono ?_
      rintro e Y8 ⟨rfl, hx0⟩; have hx : Ex Y7 Y8 := by rw [hx0]; exact Ex.refl _
      have hx' := XD7.out.trans hx
      refine hK.out _ _ hx' (fun hHeld => ?_)
      clear hK K
      try simp only [Act.put, List.setIfInBounds_toArray, List.set_cons_zero, List.set_cons_succ]
      have XD8 := Lib.hid hx'
      clear hx hx'
      refine wpAnyH_take (i := 29) (v := ?_) rfl (by kernel_rfl) (by kernel_rfl) (by kernel_rfl) (fun _ _ _ h => h) (Or.inl ⟨by rfl, ?_⟩) (by assumption) ?_
      rotate_left
      · intro w hSw; (try dsimp only at hSw); obtain ⟨c0, c1, c2, c3⟩ := CX.out w hSw; go_simp; try with_reducible rfl
      try simp only [Act.put, List.setIfInBounds_toArray, List.set_cons_zero, List.set_cons_succ]
      refine wpAnyH_ready (rs := [30]) (by kernel_rfl) (by simp) ?_
      refine AllReadyH.cons rfl (fun K hK => ?_) AllReadyH.nil
      go_simp
      refine hK.out _ _ XD8.out (fun hHeld => ?_)
      clear hK K
      try simp only [Act.put, List.setIfInBounds_toArray, List.set_cons_zero, List.set_cons_succ]
      refine wpAnyH_done (by kernel_rfl) ?_ _
      go_wp2_with fail
      go_ret
      exact ⟨rfl, HXX.out.trans XD8.out⟩
  · have i1 := Lib.hid (few_any w a n cap false (decide_eq_false hn))
    clear h hn
    go_enter Tryd.func9, Tryd.ntmps9
    go_wp2_with fail
    refine i1.out.mono ?_
    rintro e w' ⟨rfl, rfl⟩
    go_wp2_with fail
    refine (told_any w).mono ?_
    rintro e w4 ⟨rfl, hx⟩
    go_wp2_with fail
    go_ret
    exact ⟨rfl, hx⟩

end Go.Proofs.YthhgpoihkmokcaaDoor
