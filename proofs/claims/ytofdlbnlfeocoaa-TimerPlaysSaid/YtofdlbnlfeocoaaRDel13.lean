/- The document's Del. -/
import Derived.Test.YtofdlbnlfeocoaaRAdd13
namespace Go.Proofs.Ytofdlbnlfeocoaa
open Go.RowKit
set_option linter.unusedVariables false
set_option linter.unusedSimpArgs false

def delR (g : Int) (S : List T3) : List T3 := S.eraseP (fun p => p.2.1 == g)
theorem delR_at : ∀ (L : List T3) (g : Int) (k : Nat), k < L.length → (at3 L k).2.1 = g → (∀ c, c < k → (at3 L c).2.1 ≠ g) → [] ++ L.take k ++ L.drop (k + 1) = delR g L ∧ L.any (fun p => p.2.1 == g) = true
  | [], g, k, h, _, _ => by simp at h
  | p :: L, g, 0, _, h, _ => by
    have h : p.2.1 = g := by simpa [at3] using h
    simp [delR, List.eraseP_cons, h]
  | p :: L, g, k + 1, hk, h, hn => by
    have h0 : p.2.1 ≠ g := by simpa [at3] using hn 0 (by omega)
    have h0' : (p.2.1 == g) = false := by simpa using h0
    obtain ⟨h1, h2⟩ := delR_at L g k (by simpa using hk) (by simpa [at3] using h) (fun c hc => by simpa [at3] using hn (c + 1) (by omega))
    unfold delR at h1 ⊢
    refine ⟨?_, by simp [h2]⟩
    rw [List.eraseP_cons, h0']
    simpa using h1
theorem delR_not (L : List T3) (g : Int) (hn : ∀ c, c < L.length → (at3 L c).2.1 ≠ g) : delR g L = L ∧ L.any (fun p => p.2.1 == g) = false := by
  have h : ∀ p ∈ L, ¬ (p.2.1 == g) = true := fun p hp => by
    obtain ⟨c, hc, rfl⟩ := List.getElem_of_mem hp
    have := hn c hc
    simpa [at3, hc] using this
  exact ⟨List.eraseP_of_forall_not h, by rw [List.any_eq_false]; exact h⟩
def DelR (w : World) (xb : Nat) (v : Value) (L : List T3) (g : Int) (e : Ending) (w' : World) : Prop := e = .returned (.bool (L.any (fun p => p.2.1 == g))) ∧ (∃ v', Rt w' xb v' (delR g L) ∧ NewB w v v') ∧ Chg (fun i => i = xb) w w'

set_option maxRecDepth 20000 in
set_option maxHeartbeats 12800000 in
theorem rdel_any {w : World} {xb : Nat} {v : Value} {L : List T3} (h : Rt w xb v L) (hn : L.length ≤ 200) (gg : Int) :
    Calls Try.prog 18 #[.pointer (some ⟨xb, 0, none⟩), .int .i64 gg] w (DelR w xb v L gg) := by
  obtain ⟨va, vc, rfl⟩ : ∃ va vc, v = .slice va L.length vc := by
    rcases h.row with ⟨rfl, rfl⟩ | ⟨g, off, cap, rfl, -⟩
    · exact ⟨none, 0, rfl⟩
    · exact ⟨_, _, rfl⟩
  have H := Lib.hid h
  have HN : Hid (L.length ≤ 200) := Lib.hid hn
  have hn' : (L.length : Int) ≤ 200 := by omega
  have c0 := h.cell
  have HSH : Hid ((va = none ∧ vc = 0 ∧ L = []) ∨ ∃ g off, va = some ⟨g, off, none⟩ ∧ L.length ≤ vc ∧ ∀ W, Ex w W → Rd W g off L) := Lib.hid (by
    rcases h.row with ⟨h1, h2⟩ | ⟨g, off, cap, h1, h2, -, h4, h5⟩
    · simp only [Value.slice.injEq] at h1; exact .inl ⟨h1.1, h1.2.2, h2⟩
    · simp only [Value.slice.injEq] at h1; exact .inr ⟨g, off, h1.1, by omega, fun W hW => h5.ex h4 hW⟩)
  clear h
  go_enter Try.func18, Try.ntmps18
  go_wp2_with fail
  go_loopw [5] (fun jv ws => ∃ j : Nat, j ≤ L.length ∧ jv = .int .i64 j ∧ (∀ c, c < j → (at3 L c).2.1 ≠ gg) ∧ w = ws) (fun jv _ => L.length - (intOf jv).toNat)
  case atStart => exact ⟨0, Nat.zero_le _, rfl, fun c hc => by omega, rfl⟩
  case round =>
    obtain ⟨kk, hj, rfl, hnot, rfl⟩ := hrel
    have HNOT := Lib.hid hnot
    clear hnot
    rcases Nat.lt_or_ge kk L.length with hlt | hge
    · have hL : L ≠ [] := fun e => by rw [e] at hlt; simp at hlt
      obtain ⟨y, hy⟩ : ∃ y, (at3 L kk).2.1 = y := ⟨_, rfl⟩
      have r3 : (kk : Int) < (L.length : Int) := by omega
      have ra : (kk : Int) ≤ 200 := by omega
      obtain ⟨k1, hk1⟩ : ∃ k1, kk + 1 = k1 := ⟨_, rfl⟩
      have r1 : IntKind.i64.wrap ((kk : Int) + 1) = (k1 : Int) := by rw [IntKind.wrap_i64]; omega
      have HK1 := Lib.hid hk1
      rcases HSH.out with ⟨-, -, h0⟩ | ⟨g, off, rfl, hvc, hrd⟩
      · exact absurd h0 hL
      have c1 : w.cell? ⟨g, off + kk * 2 + 1, none⟩ = some (.int .i64 y) := hy ▸ (hrd w (Ex.refl w) kk hlt).2
      have HYV := Lib.hid hy
      have HJ : Hid (kk < L.length) := Lib.hid hlt
      have HRD := Lib.hid hrd
      have HVC := Lib.hid hvc
      have hk1l : k1 ≤ L.length := by omega
      clear hy hrd hvc hj hlt hL hk1
      by_cases hgg : y = gg
      · have hb : decide (y = gg) = true := decide_eq_true hgg
        have HGG := Lib.hid hgg
        go_upto_region 5 with fail
        have CX := Lib.hid (fun W (hW : Ex w.drew W) => (H.out.ex ((ex_drw w).trans hW)).cell)
        have R0 := Lib.hid (H.out.ex (ex_drw w))
        have HXX := Lib.hid (ex_drw w)
        clear c0 c1 HSH hb
        have hvc' : (L.length : Int) ≤ (vc : Int) := by have := HVC.out; omega
        have hkl : kk ≤ L.length := by have := HJ.out; omega
        have hki : (kk : Int) ≤ (L.length : Int) := by omega
        have hkc : (kk : Int) ≤ (vc : Int) := by omega
        have hki1 : (k1 : Int) ≤ (L.length : Int) := by omega
        have hkc1 : (k1 : Int) ≤ (vc : Int) := by omega
        have NW1 := Lib.hid (fun W (hW : Ex w.drew W) => news_takeR (HRD.out W ((ex_drw w).trans hW)) kk)
        have NW3 := Lib.hid (fun W (hW : Ex w.drew W) => news_dropR (HRD.out W ((ex_drw w).trans hW)) k1 vc HVC.out)
        refine wp_region_last (S := fun w' => Ex w.drew w') 19 20 (by kernel_rfl) (by kernel_rfl) (by kernel_rfl) (Ex.refl _) (fun hHeld => ?_)
        have XD0 := Lib.hid (Ex.refl w.drew)
        generalize w.drew = Y0 at *
        refine heldL_take (i := 0) (v := ?_) rfl (by kernel_rfl) (by kernel_rfl) (by kernel_rfl) (by kernel_rfl) (fun _ _ _ h => h) (Or.inl ⟨by rfl, ?_⟩) (by assumption) ?_
        rotate_left
        · intro w hSw; (try dsimp only at hSw); have c0 := CX.out w hSw; go_simp; try with_reducible rfl
        try simp only [Act.put, List.setIfInBounds_toArray, List.set_cons_zero, List.set_cons_succ]
        refine heldL_take (i := 2) (v := ?_) rfl (by kernel_rfl) (by kernel_rfl) (by kernel_rfl) (by kernel_rfl) (fun _ _ _ h => h) (Or.inl ⟨by rfl, ?_⟩) (by assumption) ?_
        rotate_left
        · intro w hSw; (try dsimp only at hSw); have c0 := CX.out w hSw; go_simp; try with_reducible rfl
        try simp only [Act.put, List.setIfInBounds_toArray, List.set_cons_zero, List.set_cons_succ]
        refine heldL_take (i := 3) (v := ?_) rfl (by kernel_rfl) (by kernel_rfl) (by kernel_rfl) (by kernel_rfl) (fun _ _ _ h => h) (Or.inl ⟨by rfl, ?_⟩) (by assumption) ?_
        rotate_left
        · intro w hSw; (try dsimp only at hSw); have c0 := CX.out w hSw; go_simp; try with_reducible rfl
        try simp only [Act.put, List.setIfInBounds_toArray, List.set_cons_zero, List.set_cons_succ]
        refine heldL_take (i := 4) (v := ?_) rfl (by kernel_rfl) (by kernel_rfl) (by kernel_rfl) (by kernel_rfl) (fun _ _ _ h => h) (Or.inl ⟨by rfl, ?_⟩) (by assumption) ?_
        rotate_left
        · intro w hSw; (try dsimp only at hSw); have c0 := CX.out w hSw; go_simp; try with_reducible rfl
        try simp only [Act.put, List.setIfInBounds_toArray, List.set_cons_zero, List.set_cons_succ]
        refine heldL_take (i := 5) (v := ?_) rfl (by kernel_rfl) (by kernel_rfl) (by kernel_rfl) (by kernel_rfl) (fun _ _ _ h => h) (Or.inl ⟨by rfl, ?_⟩) (by assumption) ?_
        rotate_left
        · intro w hSw; (try dsimp only at hSw); have c0 := CX.out w hSw; go_simp; try with_reducible rfl
        try simp only [Act.put, List.setIfInBounds_toArray, List.set_cons_zero, List.set_cons_succ]
        refine heldL_take (i := 6) (v := ?_) rfl (by kernel_rfl) (by kernel_rfl) (by kernel_rfl) (by kernel_rfl) (fun _ _ _ h => h) (Or.inl ⟨by rfl, ?_⟩) (by assumption) ?_
        rotate_left
        · intro w hSw; (try dsimp only at hSw); have c0 := CX.out w hSw; go_simp; try with_reducible rfl
        try simp only [Act.put, List.setIfInBounds_toArray, List.set_cons_zero, List.set_cons_succ]
        refine heldL_take (i := 7) (v := ?_) rfl (by kernel_rfl) (by kernel_rfl) (by kernel_rfl) (by kernel_rfl) (fun _ _ _ h => h) (Or.inl ⟨by rfl, ?_⟩) (by assumption) ?_
        rotate_left
        · intro w hSw; (try dsimp only at hSw); have c0 := CX.out w hSw; go_simp; try with_reducible rfl
        try simp only [Act.put, List.setIfInBounds_toArray, List.set_cons_zero, List.set_cons_succ]
        refine heldL_take (i := 9) (v := ?_) rfl (by kernel_rfl) (by kernel_rfl) (by kernel_rfl) (by kernel_rfl) (fun _ _ _ h => h) (Or.inl ⟨by rfl, ?_⟩) (by assumption) ?_
        rotate_left
        · intro w hSw; (try dsimp only at hSw); have c0 := CX.out w hSw; go_simp; try with_reducible rfl
        try simp only [Act.put, List.setIfInBounds_toArray, List.set_cons_zero, List.set_cons_succ]
        refine heldL_take (i := 10) (v := ?_) rfl (by kernel_rfl) (by kernel_rfl) (by kernel_rfl) (by kernel_rfl) (fun _ _ _ h => h) (Or.inl ⟨by rfl, ?_⟩) (by assumption) ?_
        rotate_left
        · intro w hSw; (try dsimp only at hSw); have c0 := CX.out w hSw; go_simp; try with_reducible rfl
        try simp only [Act.put, List.setIfInBounds_toArray, List.set_cons_zero, List.set_cons_succ]
        refine heldL_take (i := 11) (v := ?_) rfl (by kernel_rfl) (by kernel_rfl) (by kernel_rfl) (by kernel_rfl) (fun _ _ _ h => h) (Or.inl ⟨by rfl, ?_⟩) (by assumption) ?_
        rotate_left
        · intro w hSw; (try dsimp only at hSw); have c0 := CX.out w hSw; go_simp; try with_reducible rfl
        try simp only [Act.put, List.setIfInBounds_toArray, List.set_cons_zero, List.set_cons_succ]
        refine heldL_take (i := 12) (v := ?_) rfl (by kernel_rfl) (by kernel_rfl) (by kernel_rfl) (by kernel_rfl) (fun _ _ _ h => h) (Or.inl ⟨by rfl, ?_⟩) (by assumption) ?_
        rotate_left
        · intro w hSw; (try dsimp only at hSw); have c0 := CX.out w hSw; go_simp; try with_reducible rfl
        try simp only [Act.put, List.setIfInBounds_toArray, List.set_cons_zero, List.set_cons_succ]
        refine heldL_take (i := 13) (v := ?_) rfl (by kernel_rfl) (by kernel_rfl) (by kernel_rfl) (by kernel_rfl) (fun _ _ _ h => h) (Or.inl ⟨by rfl, ?_⟩) (by assumption) ?_
        rotate_left
        · intro w hSw; (try dsimp only at hSw); have c0 := CX.out w hSw; go_simp; try with_reducible rfl
        try simp only [Act.put, List.setIfInBounds_toArray, List.set_cons_zero, List.set_cons_succ]
        refine heldL_take (i := 14) (v := ?_) rfl (by kernel_rfl) (by kernel_rfl) (by kernel_rfl) (by kernel_rfl) (fun _ _ _ h => h) (Or.inl ⟨by rfl, ?_⟩) (by assumption) ?_
        rotate_left
        · intro w hSw; (try dsimp only at hSw); have c0 := CX.out w hSw; go_simp; try with_reducible rfl
        try simp only [Act.put, List.setIfInBounds_toArray, List.set_cons_zero, List.set_cons_succ]
        refine heldL_take (i := 15) (v := ?_) rfl (by kernel_rfl) (by kernel_rfl) (by kernel_rfl) (by kernel_rfl) (fun _ _ _ h => h) (Or.inl ⟨by rfl, ?_⟩) (by assumption) ?_
        rotate_left
        · intro w hSw; (try dsimp only at hSw); have c0 := CX.out w hSw; go_simp; try with_reducible rfl
        try simp only [Act.put, List.setIfInBounds_toArray, List.set_cons_zero, List.set_cons_succ]
        refine heldL_ready (rs := [1]) (by kernel_rfl) (by simp) ?_
        refine AllL.cons rfl (fun K hK => ?_) AllL.nil
        go_simp
        have hx := (XD0.out.trans (Ex.made Y0 (.cells #[] 45)))
        refine hK.out _ _ (fun _ => hx) (fun _ => ?_)
        clear hK K
        try simp only [Act.put, List.setIfInBounds_toArray, List.set_cons_zero, List.set_cons_succ]
        have hc := CT.lit XD0.out
        obtain ⟨e0, he0⟩ : ∃ e0, Y0.heap.size = e0 := ⟨_, rfl⟩
        rw [he0] at hc ⊢
        obtain ⟨v0, hv0⟩ : ∃ v0, Value.slice (some ⟨e0, 0, none⟩) 0 0 = v0 := ⟨_, rfl⟩
        have hne : ∀ q, v0.ownBlock = some q → q = e0 := fun q hq => by rw [← hv0] at hq; cases hq; rfl
        rw [hv0] at hc ⊢
        obtain ⟨Y1, hY⟩ : ∃ Y, Y = Y0.alloc (.cells #[] 45) := ⟨_, rfl⟩
        rw [← hY] at hx hc ⊢
        have hHeld := hx
        have XD1 := Lib.hid hx
        have C1 := Lib.hid hc
        clear hY hx hc hv0 hne he0
        refine heldL_ready (rs := [8]) (by kernel_rfl) (by simp) ?_
        refine AllL.cons rfl (fun K hK => ?_) AllL.nil
        refine step_append_ct rfl (.tmp 26) (.tmp 32) 37 rfl C1.out (by rfl) _ _ _ (by rfl) (L.take kk) (by simp <;> omega) ?_ (NW1.out Y1 XD1.out) (by simp <;> omega) ?_
        · intro hao; first | cases hao | (split at hao <;> cases hao) | (simp at hao; try omega)
        intro v1 Y2 hc hg hat
        refine hK.out _ _ (fun _ => hc.ex) (fun _ => ?_)
        clear hK K
        try simp only [Act.put, List.setIfInBounds_toArray, List.set_cons_zero, List.set_cons_succ]
        have hHeld := hc.ex
        have XD2 := Lib.hid hc.ex
        have C2 := Lib.hid hc
        clear hc hg hat
        refine heldL_ready (rs := [16]) (by kernel_rfl) (by simp) ?_
        refine AllL.cons rfl (fun K hK => ?_) AllL.nil
        refine step_append_ct rfl (.tmp 33) (.tmp 40) 37 rfl C2.out (by rfl) _ _ _ (by rfl) (L.drop k1) (by simp <;> omega) ?_ (NW3.out Y2 XD2.out _ (by intro h; first | rfl | simp [h])) (by simp <;> omega) ?_
        · intro hao; first | cases hao | (split at hao <;> cases hao) | (simp at hao; try omega)
        intro v2 Y3 hc hg hat
        refine hK.out _ _ (fun _ => hc.ex) (fun _ => ?_)
        clear hK K
        try simp only [Act.put, List.setIfInBounds_toArray, List.set_cons_zero, List.set_cons_succ]
        have hHeld := hc.ex
        have XD3 := Lib.hid hc.ex
        have C3 := Lib.hid hc
        clear hc hg hat
        refine heldL_take (i := 17) (v := ?_) rfl (by kernel_rfl) (by kernel_rfl) (by kernel_rfl) (by kernel_rfl) (fun _ _ _ h => h) (Or.inl ⟨by rfl, ?_⟩) (by assumption) ?_
        rotate_left
        · intro w hSw; (try dsimp only at hSw); have c0 := CX.out w hSw; go_simp; try with_reducible rfl
        try simp only [Act.put, List.setIfInBounds_toArray, List.set_cons_zero, List.set_cons_succ]
        refine heldL_take (i := 18) (v := ?_) rfl (by kernel_rfl) (by kernel_rfl) (by kernel_rfl) (by kernel_rfl) (fun _ _ _ h => h) (Or.inl ⟨by rfl, ?_⟩) (by assumption) ?_
        rotate_left
        · intro w hSw; (try dsimp only at hSw); have c0 := CX.out w hSw; go_simp; try with_reducible rfl
        try simp only [Act.put, List.setIfInBounds_toArray, List.set_cons_zero, List.set_cons_succ]
        obtain ⟨a3, n3, c3, rfl⟩ := C3.out.shape
        have s0 := (R0.out.ex XD3.out).cell
        have s1 := (R0.out.ex XD3.out).soft
        refine heldL_store_ct 43 41 (by kernel_rfl) (by kernel_rfl) (by kernel_rfl) (by rfl) (by rfl) s0 s1 ?_
        clear s0 s1
        have CE := Lib.hid (rt_store R0.out C3.out)
        obtain ⟨Z, hZ⟩ : ∃ Z, Z = Y3.setCell ⟨xb, 0, none⟩ (.slice a3 n3 c3) := ⟨_, rfl⟩
        rw [← hZ] at CE ⊢
        clear hZ
        rotate_left
        all_goals
          clear CX NW1 NW3
          go_wp2_with fail
          all_goals go_ret
          all_goals obtain ⟨e1, e2⟩ := delR_at L gg kk HJ.out (HYV.out.trans HGG.out) HNOT.out
          all_goals rw [HK1.out] at e1
          all_goals exact ⟨by rw [e2] <;> rfl, ⟨_, e1 ▸ CE.out.1, fun g hg => .inr (Nat.le_trans HXX.out.size (CE.out.2.2 g hg))⟩, (HXX.out.chg _).trans CE.out.2.1 (fun _ _ h => h)⟩
      · have hb : decide (y = gg) = false := decide_eq_false hgg
        have HLT := Lib.hid hgg
        go_wp2_with fail
        go_roundw
        case rel =>
          refine ⟨k1, hk1l, rfl, fun c hc => ?_, by first | rfl | trivial⟩
          rcases Nat.lt_or_ge c kk with h | h
          · exact HNOT.out c h
          · obtain rfl : c = kk := by have := HK1.out; omega
            exact fun e => HLT.out (HYV.out.symm.trans e)
        case measure => have := HJ.out; have := HK1.out; simp [intOf]; omega
    · obtain rfl : kk = L.length := by omega
      have r3 : ¬ (L.length : Int) < (L.length : Int) := by omega
      go_wp2_with fail
      go_ret
      obtain ⟨e1, e2⟩ := delR_not L gg HNOT.out
      exact ⟨by rw [e2] <;> rfl, ⟨_, by rw [e1]; exact H.out, fun g hg => .inl hg⟩, Chg.refl _ _⟩

end Go.Proofs.Ytofdlbnlfeocoaa
