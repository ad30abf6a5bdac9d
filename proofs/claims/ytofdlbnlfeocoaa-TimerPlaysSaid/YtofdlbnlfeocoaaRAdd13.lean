/- The document's Add. -/
import Derived.Test.YtofdlbnlfeocoaaRT13
import Derived.Test.YtofdlbnlfeocoaaLast13
import Derived.Great.Walk
namespace Go.Proofs.Ytofdlbnlfeocoaa
open Go.RowKit
set_option linter.unusedVariables false
set_option linter.unusedSimpArgs false

/-- Where it goes. -/
def cutT (L : List T3) (x : Int) : Nat → Nat
  | 0 => 0
  | k + 1 => if x < (at3 L k).1 then cutT L x k else k + 1
theorem cutT_le (L : List T3) (x : Int) : ∀ k, cutT L x k ≤ k
  | 0 => Nat.le_refl _
  | k + 1 => by
    unfold cutT
    split
    · have := cutT_le L x k; omega
    · exact Nat.le_refl _
def addR (p : T3) (L : List T3) : List T3 := L.take (cutT L p.1 L.length) ++ p :: L.drop (cutT L p.1 L.length)
def AddR (w : World) (xb : Nat) (v : Value) (M : List T3) (e : Ending) (w' : World) : Prop := e = .returned (.tuple #[]) ∧ (∃ v', Rt w' xb v' M ∧ NewB w v v') ∧ Chg (fun i => i = xb) w w'

theorem news_takeR {W : World} {g off : Nat} {L : List T3} (hc : Rd W g off L) (K : Nat) :
    ∀ ad, some (⟨g, off, none⟩ : Addr) = some ad → ∀ (j : Nat) (u : Value), (cellsR (L.take K))[j]? = some u → W.cell? (ad.add j) = some u := fun ad had =>
  rnews hc 0 (L.take K) (fun j hj => ⟨by rw [List.length_take] at hj; omega, by rw [List.length_take] at hj; simp [at3, List.getElem?_take, show j < K by omega]⟩) ad (fun _ => by cases had; simp)
theorem news_dropR {W : World} {g off : Nat} {L : List T3} (hc : Rd W g off L) (K vc : Nat) (hv : L.length ≤ vc) :
    ∀ ao, (¬ vc = K → ao = some (⟨g, off + K * 2, none⟩ : Addr)) → ∀ ad, ao = some ad → ∀ (j : Nat) (u : Value), (cellsR (L.drop K))[j]? = some u → W.cell? (ad.add j) = some u := fun ao hao ad had =>
  rnews hc K (L.drop K) (fun j hj => ⟨by rw [List.length_drop] at hj; omega, by simp [at3]⟩) ad (fun h => by
    rw [List.length_drop] at h
    rw [hao (by omega)] at had
    cases had
    rfl)
theorem addR_is {L : List T3} {K : Nat} (x g s : Int) (hK : cutT L x L.length = K) : [] ++ L.take K ++ [(x, g, s)] ++ L.drop K = addR (x, g, s) L := by
  unfold addR
  rw [hK]
  simp

set_option maxRecDepth 20000 in
set_option maxHeartbeats 12800000 in
theorem radd_any {w : World} {xb : Nat} {v : Value} {L : List T3} (h : Rt w xb v L) (hn : L.length ≤ 200) (x gg s : Int) :
    Calls Try.prog 15 #[.pointer (some ⟨xb, 0, none⟩), .int .i64 x, .int .i64 gg] w (AddR w xb v (addR (x, gg, s) L)) := by
  obtain ⟨va, vc, rfl⟩ : ∃ va vc, v = .slice va L.length vc := by
    rcases h.row with ⟨rfl, rfl⟩ | ⟨g, off, cap, rfl, -⟩
    · exact ⟨none, 0, rfl⟩
    · exact ⟨_, _, rfl⟩
  have H := Lib.hid h
  have HN : Hid (L.length ≤ 200) := Lib.hid hn
  have hn' : (L.length : Int) ≤ 200 := by omega
  have c0 := h.cell
  have HSH : Hid ((va = none ∧ vc = 0 ∧ L = []) ∨ ∃ g off, va = some ⟨g, off, none⟩ ∧ L.length ≤ vc ∧ ∀ W, Ex w W → Rd W g off L) := Lib.hid (by
    rcases h.row with ⟨h1, h2⟩ | ⟨g, off, cap, h1, h2, -, h4, h5⟩
    · simp only [Value.slice.injEq] at h1; exact .inl ⟨h1.1, h1.2.2, h2⟩
    · simp only [Value.slice.injEq] at h1; exact .inr ⟨g, off, h1.1, by omega, fun W hW => h5.ex h4 hW⟩)
  clear h
  go_enter Try.func15, Try.ntmps15
  go_wp2_with fail
  go_loopw [6] (fun jv ws => ∃ j : Nat, j ≤ L.length ∧ jv = .int .i64 j ∧ cutT L x j = cutT L x L.length ∧ w = ws) (fun jv _ => (intOf jv).toNat)
  case atStart => exact ⟨L.length, Nat.le_refl _, rfl, rfl, rfl⟩
  case round =>
    obtain ⟨j, hj, rfl, hcut, rfl⟩ := hrel
    have HC := Lib.hid hcut
    clear hcut
    cases j with
    | zero =>
      rw [show ((0 : Nat) : Int) = 0 from rfl]
      go_upto_region 3 with fail
      have CX := Lib.hid (fun W (hW : Ex w.drew W) => (H.out.ex ((ex_drw w).trans hW)).cell)
      have R0 := Lib.hid (H.out.ex (ex_drw w))
      have HXX := Lib.hid (ex_drw w)
      have HKI : Hid (cutT L x L.length = 0) := Lib.hid HC.out.symm
      clear c0 HC
      rcases HSH.out with ⟨rfl, rfl, rfl⟩ | ⟨g, off, rfl, hvc, hrd⟩
      · clear HSH
        rw [show ([] : List T3).length = 0 from rfl]
        refine wp_region_last (S := fun w' => Ex w.drew w') 23 24 (by kernel_rfl) (by kernel_rfl) (by kernel_rfl) (Ex.refl _) (fun hHeld => ?_)
        have XD0 := Lib.hid (Ex.refl w.drew)
        generalize w.drew = Y0 at *
        refine heldL_take (i := 0) (v := ?_) rfl (by kernel_rfl) (by kernel_rfl) (by kernel_rfl) (by kernel_rfl) (fun _ _ _ h => h) (Or.inl ⟨by rfl, ?_⟩) (by assumption) ?_
        rotate_left
        · intro w hSw; (try dsimp only at hSw); have c0 := CX.out w hSw; go_simp; try with_reducible rfl
        try simp only [Act.put, List.setIfInBounds_toArray, List.set_cons_zero, List.set_cons_succ]
        refine heldL_take (i := 2) (v := ?_) rfl (by kernel_rfl) (by kernel_rfl) (by kernel_rfl) (by kernel_rfl) (fun _ _ _ h => h) (Or.inl ⟨by rfl, ?_⟩) (by assumption) ?_
        rotate_left
        · intro w hSw; (try dsimp only at hSw); have c0 := CX.out w hSw; go_simp; try with_reducible rfl
        try simp only [Act.put, List.setIfInBounds_toArray, List.set_cons_zero, List.set_cons_succ]
        refine heldL_take (i := 3) (v := ?_) rfl (by kernel_rfl) (by kernel_rfl) (by kernel_rfl) (by kernel_rfl) (fun _ _ _ h => h) (Or.inl ⟨by rfl, ?_⟩) (by assumption) ?_
        rotate_left
        · intro w hSw; (try dsimp only at hSw); have c0 := CX.out w hSw; go_simp; try with_reducible rfl
        try simp only [Act.put, List.setIfInBounds_toArray, List.set_cons_zero, List.set_cons_succ]
        refine heldL_take (i := 4) (v := ?_) rfl (by kernel_rfl) (by kernel_rfl) (by kernel_rfl) (by kernel_rfl) (fun _ _ _ h => h) (Or.inl ⟨by rfl, ?_⟩) (by assumption) ?_
        rotate_left
        · intro w hSw; (try dsimp only at hSw); have c0 := CX.out w hSw; go_simp; try with_reducible rfl
        try simp only [Act.put, List.setIfInBounds_toArray, List.set_cons_zero, List.set_cons_succ]
        refine heldL_take (i := 5) (v := ?_) rfl (by kernel_rfl) (by kernel_rfl) (by kernel_rfl) (by kernel_rfl) (fun _ _ _ h => h) (Or.inl ⟨by rfl, ?_⟩) (by assumption) ?_
        rotate_left
        · intro w hSw; (try dsimp only at hSw); have c0 := CX.out w hSw; go_simp; try with_reducible rfl
        try simp only [Act.put, List.setIfInBounds_toArray, List.set_cons_zero, List.set_cons_succ]
        refine heldL_take (i := 6) (v := ?_) rfl (by kernel_rfl) (by kernel_rfl) (by kernel_rfl) (by kernel_rfl) (fun _ _ _ h => h) (Or.inl ⟨by rfl, ?_⟩) (by assumption) ?_
        rotate_left
        · intro w hSw; (try dsimp only at hSw); have c0 := CX.out w hSw; go_simp; try with_reducible rfl
        try simp only [Act.put, List.setIfInBounds_toArray, List.set_cons_zero, List.set_cons_succ]
        refine heldL_take (i := 7) (v := ?_) rfl (by kernel_rfl) (by kernel_rfl) (by kernel_rfl) (by kernel_rfl) (fun _ _ _ h => h) (Or.inl ⟨by rfl, ?_⟩) (by assumption) ?_
        rotate_left
        · intro w hSw; (try dsimp only at hSw); have c0 := CX.out w hSw; go_simp; try with_reducible rfl
        try simp only [Act.put, List.setIfInBounds_toArray, List.set_cons_zero, List.set_cons_succ]
        refine heldL_take (i := 9) (v := ?_) rfl (by kernel_rfl) (by kernel_rfl) (by kernel_rfl) (by kernel_rfl) (fun _ _ _ h => h) (Or.inl ⟨by rfl, ?_⟩) (by assumption) ?_
        rotate_left
        · intro w hSw; (try dsimp only at hSw); have c0 := CX.out w hSw; go_simp; try with_reducible rfl
        try simp only [Act.put, List.setIfInBounds_toArray, List.set_cons_zero, List.set_cons_succ]
        refine heldL_take (i := 10) (v := ?_) rfl (by kernel_rfl) (by kernel_rfl) (by kernel_rfl) (by kernel_rfl) (fun _ _ _ h => h) (Or.inl ⟨by rfl, ?_⟩) (by assumption) ?_
        rotate_left
        · intro w hSw; (try dsimp only at hSw); have c0 := CX.out w hSw; go_simp; try with_reducible rfl
        try simp only [Act.put, List.setIfInBounds_toArray, List.set_cons_zero, List.set_cons_succ]
        refine heldL_take (i := 11) (v := ?_) rfl (by kernel_rfl) (by kernel_rfl) (by kernel_rfl) (by kernel_rfl) (fun _ _ _ h => h) (Or.inl ⟨by rfl, ?_⟩) (by assumption) ?_
        rotate_left
        · intro w hSw; (try dsimp only at hSw); have c0 := CX.out w hSw; go_simp; try with_reducible rfl
        try simp only [Act.put, List.setIfInBounds_toArray, List.set_cons_zero, List.set_cons_succ]
        refine heldL_take (i := 14) (v := ?_) rfl (by kernel_rfl) (by kernel_rfl) (by kernel_rfl) (by kernel_rfl) (fun _ _ _ h => h) (Or.inl ⟨by rfl, ?_⟩) (by assumption) ?_
        rotate_left
        · intro w hSw; (try dsimp only at hSw); have c0 := CX.out w hSw; go_simp; try with_reducible rfl
        try simp only [Act.put, List.setIfInBounds_toArray, List.set_cons_zero, List.set_cons_succ]
        refine heldL_take (i := 15) (v := ?_) rfl (by kernel_rfl) (by kernel_rfl) (by kernel_rfl) (by kernel_rfl) (fun _ _ _ h => h) (Or.inl ⟨by rfl, ?_⟩) (by assumption) ?_
        rotate_left
        · intro w hSw; (try dsimp only at hSw); have c0 := CX.out w hSw; go_simp; try with_reducible rfl
        try simp only [Act.put, List.setIfInBounds_toArray, List.set_cons_zero, List.set_cons_succ]
        refine heldL_take (i := 16) (v := ?_) rfl (by kernel_rfl) (by kernel_rfl) (by kernel_rfl) (by kernel_rfl) (fun _ _ _ h => h) (Or.inl ⟨by rfl, ?_⟩) (by assumption) ?_
        rotate_left
        · intro w hSw; (try dsimp only at hSw); have c0 := CX.out w hSw; go_simp; try with_reducible rfl
        try simp only [Act.put, List.setIfInBounds_toArray, List.set_cons_zero, List.set_cons_succ]
        refine heldL_take (i := 17) (v := ?_) rfl (by kernel_rfl) (by kernel_rfl) (by kernel_rfl) (by kernel_rfl) (fun _ _ _ h => h) (Or.inl ⟨by rfl, ?_⟩) (by assumption) ?_
        rotate_left
        · intro w hSw; (try dsimp only at hSw); have c0 := CX.out w hSw; go_simp; try with_reducible rfl
        try simp only [Act.put, List.setIfInBounds_toArray, List.set_cons_zero, List.set_cons_succ]
        refine heldL_take (i := 18) (v := ?_) rfl (by kernel_rfl) (by kernel_rfl) (by kernel_rfl) (by kernel_rfl) (fun _ _ _ h => h) (Or.inl ⟨by rfl, ?_⟩) (by assumption) ?_
        rotate_left
        · intro w hSw; (try dsimp only at hSw); have c0 := CX.out w hSw; go_simp; try with_reducible rfl
        try simp only [Act.put, List.setIfInBounds_toArray, List.set_cons_zero, List.set_cons_succ]
        refine heldL_take (i := 19) (v := ?_) rfl (by kernel_rfl) (by kernel_rfl) (by kernel_rfl) (by kernel_rfl) (fun _ _ _ h => h) (Or.inl ⟨by rfl, ?_⟩) (by assumption) ?_
        rotate_left
        · intro w hSw; (try dsimp only at hSw); have c0 := CX.out w hSw; go_simp; try with_reducible rfl
        try simp only [Act.put, List.setIfInBounds_toArray, List.set_cons_zero, List.set_cons_succ]
        refine heldL_ready (rs := [1, 12]) (by kernel_rfl) (by simp) ?_
        refine AllL.cons rfl (fun K hK => ?_) (AllL.cons rfl (fun K hK => ?_) AllL.nil)
        go_simp
        have hx := (XD0.out.trans (Ex.made Y0 (.cells #[] 45)))
        refine hK.out _ _ (fun _ => hx) (fun _ => ?_)
        clear hK K
        try simp only [Act.put, List.setIfInBounds_toArray, List.set_cons_zero, List.set_cons_succ]
        have hc := CT.lit XD0.out
        obtain ⟨e0, he0⟩ : ∃ e0, Y0.heap.size = e0 := ⟨_, rfl⟩
        rw [he0] at hc ⊢
        obtain ⟨v0, hv0⟩ : ∃ v0, Value.slice (some ⟨e0, 0, none⟩) 0 0 = v0 := ⟨_, rfl⟩
        have hne : ∀ q, v0.ownBlock = some q → q = e0 := fun q hq => by rw [← hv0] at hq; cases hq; rfl
        rw [hv0] at hc ⊢
        obtain ⟨Y1, hY⟩ : ∃ Y, Y = Y0.alloc (.cells #[] 45) := ⟨_, rfl⟩
        rw [← hY] at hx hc ⊢
        have hHeld := hx
        have XD1 := Lib.hid hx
        have C1 := Lib.hid hc
        clear hY hx hc hv0 hne he0
        refine heldL_ready (rs := [8, 12]) (by kernel_rfl) (by simp) ?_
        refine AllL.cons rfl (fun K hK => ?_) (AllL.cons rfl (fun K hK => ?_) AllL.nil)
        refine step_append_ct rfl (.tmp 30) (.tmp 36) 37 rfl C1.out (by rfl) _ _ _ (by rfl) (([] : List T3).take 0) (by simp <;> omega) ?_ ((fun ad had => by cases had)) (by simp <;> omega) ?_
        · intro hao; exact ⟨rfl, rfl⟩
        intro v1 Y2 hc hg hat
        refine hK.out _ _ (fun _ => hc.ex) (fun _ => ?_)
        clear hK K
        try simp only [Act.put, List.setIfInBounds_toArray, List.set_cons_zero, List.set_cons_succ]
        have hHeld := hc.ex
        have XD2 := Lib.hid hc.ex
        have C2 := Lib.hid hc
        clear hc hg hat
        refine heldL_ready (rs := [12]) (by kernel_rfl) (by simp) ?_
        refine AllL.cons rfl (fun K hK => ?_) AllL.nil
        go_simp
        have hx := (XD2.out.trans (Ex.made Y2 (.cells #[.int .i64 x, .int .i64 gg] 45)))
        refine hK.out _ _ (fun _ => hx) (fun _ => ?_)
        clear hK K
        try simp only [Act.put, List.setIfInBounds_toArray, List.set_cons_zero, List.set_cons_succ]
        have hb := Box.fresh Y2 #[.int .i64 x, .int .i64 gg] 45
        have hc := C2.out.made (.cells #[.int .i64 x, .int .i64 gg] 45)
        have hne := C2.out.new
        obtain ⟨nb, hnb⟩ : ∃ b, Y2.heap.size = b := ⟨_, rfl⟩
        rw [hnb] at hb hne ⊢
        obtain ⟨Y3, hY⟩ : ∃ Y, Y = Y2.alloc (.cells #[.int .i64 x, .int .i64 gg] 45) := ⟨_, rfl⟩
        rw [← hY] at hx hb hc ⊢
        have hHeld := hx
        have XD3 := Lib.hid hx
        have B3 := Lib.hid hb
        have C3 := Lib.hid hc
        have NE3 := Lib.hid hne
        clear hc hne
        clear hY hnb hx hb
        refine heldL_ready (rs := [13]) (by kernel_rfl) (by simp) ?_
        refine AllL.cons rfl (fun K hK => ?_) AllL.nil
        refine step_append_ct rfl (.tmp 37) (.tmp 41) 37 rfl C3.out (by rfl) _ _ _ (by rfl) ([(x, gg, s)]) (by simp <;> omega) ?_ ((fun ad had => by cases had; exact box_news2 B3.out)) (by simp <;> omega) ?_
        · intro hao; first | cases hao | (split at hao <;> cases hao) | (simp at hao; try omega)
        intro v2 Y4 hc hg hat
        refine hK.out _ _ (fun _ => hc.ex) (fun _ => ?_)
        clear hK K
        try simp only [Act.put, List.setIfInBounds_toArray, List.set_cons_zero, List.set_cons_succ]
        have hHeld := hc.ex
        have XD4 := Lib.hid hc.ex
        have C4 := Lib.hid hc
        clear hc hg hat
        refine heldL_ready (rs := [20]) (by kernel_rfl) (by simp) ?_
        refine AllL.cons rfl (fun K hK => ?_) AllL.nil
        refine step_append_ct rfl (.tmp 42) (.tmp 48) 37 rfl C4.out (by rfl) _ _ _ (by rfl) (([] : List T3).drop 0) (by simp <;> omega) ?_ ((fun ad had => by cases had)) (by simp <;> omega) ?_
        · intro hao; exact ⟨rfl, rfl⟩
        intro v3 Y5 hc hg hat
        refine hK.out _ _ (fun _ => hc.ex) (fun _ => ?_)
        clear hK K
        try simp only [Act.put, List.setIfInBounds_toArray, List.set_cons_zero, List.set_cons_succ]
        have hHeld := hc.ex
        have XD5 := Lib.hid hc.ex
        have C5 := Lib.hid hc
        clear hc hg hat
        refine heldL_take (i := 21) (v := ?_) rfl (by kernel_rfl) (by kernel_rfl) (by kernel_rfl) (by kernel_rfl) (fun _ _ _ h => h) (Or.inl ⟨by rfl, ?_⟩) (by assumption) ?_
        rotate_left
        · intro w hSw; (try dsimp only at hSw); have c0 := CX.out w hSw; go_simp; try with_reducible rfl
        try simp only [Act.put, List.setIfInBounds_toArray, List.set_cons_zero, List.set_cons_succ]
        refine heldL_take (i := 22) (v := ?_) rfl (by kernel_rfl) (by kernel_rfl) (by kernel_rfl) (by kernel_rfl) (fun _ _ _ h => h) (Or.inl ⟨by rfl, ?_⟩) (by assumption) ?_
        rotate_left
        · intro w hSw; (try dsimp only at hSw); have c0 := CX.out w hSw; go_simp; try with_reducible rfl
        try simp only [Act.put, List.setIfInBounds_toArray, List.set_cons_zero, List.set_cons_succ]
        obtain ⟨a3, n3, c3, rfl⟩ := C5.out.shape
        have s0 := (R0.out.ex XD5.out).cell
        have s1 := (R0.out.ex XD5.out).soft
        refine heldL_store_ct 51 49 (by kernel_rfl) (by kernel_rfl) (by kernel_rfl) (by rfl) (by rfl) s0 s1 ?_
        clear s0 s1
        have CE := Lib.hid (rt_store R0.out C5.out)
        obtain ⟨Z, hZ⟩ : ∃ Z, Z = Y5.setCell ⟨xb, 0, none⟩ (.slice a3 n3 c3) := ⟨_, rfl⟩
        rw [← hZ] at CE ⊢
        clear hZ
        rotate_left
        go_simp
        have hx := (XD1.out.trans (Ex.made Y1 (.cells #[.int .i64 x, .int .i64 gg] 45)))
        refine hK.out _ _ (fun _ => hx) (fun _ => ?_)
        clear hK K
        try simp only [Act.put, List.setIfInBounds_toArray, List.set_cons_zero, List.set_cons_succ]
        have hb := Box.fresh Y1 #[.int .i64 x, .int .i64 gg] 45
        have hc := C1.out.made (.cells #[.int .i64 x, .int .i64 gg] 45)
        have hne := C1.out.new
        obtain ⟨nb, hnb⟩ : ∃ b, Y1.heap.size = b := ⟨_, rfl⟩
        rw [hnb] at hb hne ⊢
        obtain ⟨Y2, hY⟩ : ∃ Y, Y = Y1.alloc (.cells #[.int .i64 x, .int .i64 gg] 45) := ⟨_, rfl⟩
        rw [← hY] at hx hb hc ⊢
        have hHeld := hx
        have XD2 := Lib.hid hx
        have B2 := Lib.hid hb
        have C2 := Lib.hid hc
        have NE2 := Lib.hid hne
        clear hc hne
        clear hY hnb hx hb
        refine heldL_ready (rs := [8]) (by kernel_rfl) (by simp) ?_
        refine AllL.cons rfl (fun K hK => ?_) AllL.nil
        refine step_append_ct rfl (.tmp 30) (.tmp 36) 37 rfl C2.out (by rfl) _ _ _ (by rfl) (([] : List T3).take 0) (by simp <;> omega) ?_ ((fun ad had => by cases had)) (by simp <;> omega) ?_
        · intro hao; exact ⟨rfl, rfl⟩
        intro v1 Y3 hc hg hat
        refine hK.out _ _ (fun _ => hc.ex) (fun _ => ?_)
        clear hK K
        try simp only [Act.put, List.setIfInBounds_toArray, List.set_cons_zero, List.set_cons_succ]
        have hHeld := hc.ex
        have XD3 := Lib.hid hc.ex
        have C3 := Lib.hid hc
        have B3 := Lib.hid (box_far B2.out NE2.out hg)
        have NE3 := Lib.hid (own_far B2.out NE2.out hat)
        clear hc hg hat
        refine heldL_ready (rs := [13]) (by kernel_rfl) (by simp) ?_
        refine AllL.cons rfl (fun K hK => ?_) AllL.nil
        refine step_append_ct rfl (.tmp 37) (.tmp 41) 37 rfl C3.out (by rfl) _ _ _ (by rfl) ([(x, gg, s)]) (by simp <;> omega) ?_ ((fun ad had => by cases had; exact box_news2 B3.out)) (by simp <;> omega) ?_
        · intro hao; first | cases hao | (split at hao <;> cases hao) | (simp at hao; try omega)
        intro v2 Y4 hc hg hat
        refine hK.out _ _ (fun _ => hc.ex) (fun _ => ?_)
        clear hK K
        try simp only [Act.put, List.setIfInBounds_toArray, List.set_cons_zero, List.set_cons_succ]
        have hHeld := hc.ex
        have XD4 := Lib.hid hc.ex
        have C4 := Lib.hid hc
        clear hc hg hat
        refine heldL_ready (rs := [20]) (by kernel_rfl) (by simp) ?_
        refine AllL.cons rfl (fun K hK => ?_) AllL.nil
        refine step_append_ct rfl (.tmp 42) (.tmp 48) 37 rfl C4.out (by rfl) _ _ _ (by rfl) (([] : List T3).drop 0) (by simp <;> omega) ?_ ((fun ad had => by cases had)) (by simp <;> omega) ?_
        · intro hao; exact ⟨rfl, rfl⟩
        intro v3 Y5 hc hg hat
        refine hK.out _ _ (fun _ => hc.ex) (fun _ => ?_)
        clear hK K
        try simp only [Act.put, List.setIfInBounds_toArray, List.set_cons_zero, List.set_cons_succ]
        have hHeld := hc.ex
        have XD5 := Lib.hid hc.ex
        have C5 := Lib.hid hc
        clear hc hg hat
        refine heldL_take (i := 21) (v := ?_) rfl (by kernel_rfl) (by kernel_rfl) (by kernel_rfl) (by kernel_rfl) (fun _ _ _ h => h) (Or.inl ⟨by rfl, ?_⟩) (by assumption) ?_
        rotate_left
        · intro w hSw; (try dsimp only at hSw); have c0 := CX.out w hSw; go_simp; try with_reducible rfl
        try simp only [Act.put, List.setIfInBounds_toArray, List.set_cons_zero, List.set_cons_succ]
        refine heldL_take (i := 22) (v := ?_) rfl (by kernel_rfl) (by kernel_rfl) (by kernel_rfl) (by kernel_rfl) (fun _ _ _ h => h) (Or.inl ⟨by rfl, ?_⟩) (by assumption) ?_
        rotate_left
        · intro w hSw; (try dsimp only at hSw); have c0 := CX.out w hSw; go_simp; try with_reducible rfl
        try simp only [Act.put, List.setIfInBounds_toArray, List.set_cons_zero, List.set_cons_succ]
        obtain ⟨a3, n3, c3, rfl⟩ := C5.out.shape
        have s0 := (R0.out.ex XD5.out).cell
        have s1 := (R0.out.ex XD5.out).soft
        refine heldL_store_ct 51 49 (by kernel_rfl) (by kernel_rfl) (by kernel_rfl) (by rfl) (by rfl) s0 s1 ?_
        clear s0 s1
        have CE := Lib.hid (rt_store R0.out C5.out)
        obtain ⟨Z, hZ⟩ : ∃ Z, Z = Y5.setCell ⟨xb, 0, none⟩ (.slice a3 n3 c3) := ⟨_, rfl⟩
        rw [← hZ] at CE ⊢
        clear hZ
        rotate_left
        go_simp
        have hx := (XD0.out.trans (Ex.made Y0 (.cells #[.int .i64 x, .int .i64 gg] 45)))
        refine hK.out _ _ (fun _ => hx) (fun _ => ?_)
        clear hK K
        try simp only [Act.put, List.setIfInBounds_toArray, List.set_cons_zero, List.set_cons_succ]
        have hb := Box.fresh Y0 #[.int .i64 x, .int .i64 gg] 45
        obtain ⟨nb, hnb⟩ : ∃ b, Y0.heap.size = b := ⟨_, rfl⟩
        rw [hnb] at hb ⊢
        obtain ⟨Y1, hY⟩ : ∃ Y, Y = Y0.alloc (.cells #[.int .i64 x, .int .i64 gg] 45) := ⟨_, rfl⟩
        rw [← hY] at hx hb ⊢
        have hHeld := hx
        have XD1 := Lib.hid hx
        have B1 := Lib.hid hb
        clear hY hnb hx hb
        refine heldL_ready (rs := [1]) (by kernel_rfl) (by simp) ?_
        refine AllL.cons rfl (fun K hK => ?_) AllL.nil
        go_simp
        have hx := (XD1.out.trans (Ex.made Y1 (.cells #[] 45)))
        refine hK.out _ _ (fun _ => hx) (fun _ => ?_)
        clear hK K
        try simp only [Act.put, List.setIfInBounds_toArray, List.set_cons_zero, List.set_cons_succ]
        have hc := CT.lit XD1.out
        have hb := (B1.out.ex (Ex.made Y1 (.cells #[] 45)))
        have hlt := B1.out.lt
        obtain ⟨e0, he0⟩ : ∃ e0, Y1.heap.size = e0 := ⟨_, rfl⟩
        rw [he0] at hc ⊢
        rw [he0] at hlt
        obtain ⟨v0, hv0⟩ : ∃ v0, Value.slice (some ⟨e0, 0, none⟩) 0 0 = v0 := ⟨_, rfl⟩
        have hne : ∀ q, v0.ownBlock = some q → q = e0 := fun q hq => by rw [← hv0] at hq; cases hq; rfl
        rw [hv0] at hc ⊢
        obtain ⟨Y2, hY⟩ : ∃ Y, Y = Y1.alloc (.cells #[] 45) := ⟨_, rfl⟩
        rw [← hY] at hx hc hb ⊢
        have hHeld := hx
        have XD2 := Lib.hid hx
        have C2 := Lib.hid hc
        have B2 := Lib.hid hb
        have NE2 : Hid (v0.ownBlock ≠ some nb) := Lib.hid (fun e => by have := hne nb e; omega)
        clear hb hlt
        clear hY hx hc hv0 hne he0
        refine heldL_ready (rs := [8]) (by kernel_rfl) (by simp) ?_
        refine AllL.cons rfl (fun K hK => ?_) AllL.nil
        refine step_append_ct rfl (.tmp 30) (.tmp 36) 37 rfl C2.out (by rfl) _ _ _ (by rfl) (([] : List T3).take 0) (by simp <;> omega) ?_ ((fun ad had => by cases had)) (by simp <;> omega) ?_
        · intro hao; exact ⟨rfl, rfl⟩
        intro v1 Y3 hc hg hat
        refine hK.out _ _ (fun _ => hc.ex) (fun _ => ?_)
        clear hK K
        try simp only [Act.put, List.setIfInBounds_toArray, List.set_cons_zero, List.set_cons_succ]
        have hHeld := hc.ex
        have XD3 := Lib.hid hc.ex
        have C3 := Lib.hid hc
        have B3 := Lib.hid (box_far B2.out NE2.out hg)
        have NE3 := Lib.hid (own_far B2.out NE2.out hat)
        clear hc hg hat
        refine heldL_ready (rs := [13]) (by kernel_rfl) (by simp) ?_
        refine AllL.cons rfl (fun K hK => ?_) AllL.nil
        refine step_append_ct rfl (.tmp 37) (.tmp 41) 37 rfl C3.out (by rfl) _ _ _ (by rfl) ([(x, gg, s)]) (by simp <;> omega) ?_ ((fun ad had => by cases had; exact box_news2 B3.out)) (by simp <;> omega) ?_
        · intro hao; first | cases hao | (split at hao <;> cases hao) | (simp at hao; try omega)
        intro v2 Y4 hc hg hat
        refine hK.out _ _ (fun _ => hc.ex) (fun _ => ?_)
        clear hK K
        try simp only [Act.put, List.setIfInBounds_toArray, List.set_cons_zero, List.set_cons_succ]
        have hHeld := hc.ex
        have XD4 := Lib.hid hc.ex
        have C4 := Lib.hid hc
        clear hc hg hat
        refine heldL_ready (rs := [20]) (by kernel_rfl) (by simp) ?_
        refine AllL.cons rfl (fun K hK => ?_) AllL.nil
        refine step_append_ct rfl (.tmp 42) (.tmp 48) 37 rfl C4.out (by rfl) _ _ _ (by rfl) (([] : List T3).drop 0) (by simp <;> omega) ?_ ((fun ad had => by cases had)) (by simp <;> omega) ?_
        · intro hao; exact ⟨rfl, rfl⟩
        intro v3 Y5 hc hg hat
        refine hK.out _ _ (fun _ => hc.ex) (fun _ => ?_)
        clear hK K
        try simp only [Act.put, List.setIfInBounds_toArray, List.set_cons_zero, List.set_cons_succ]
        have hHeld := hc.ex
        have XD5 := Lib.hid hc.ex
        have C5 := Lib.hid hc
        clear hc hg hat
        refine heldL_take (i := 21) (v := ?_) rfl (by kernel_rfl) (by kernel_rfl) (by kernel_rfl) (by kernel_rfl) (fun _ _ _ h => h) (Or.inl ⟨by rfl, ?_⟩) (by assumption) ?_
        rotate_left
        · intro w hSw; (try dsimp only at hSw); have c0 := CX.out w hSw; go_simp; try with_reducible rfl
        try simp only [Act.put, List.setIfInBounds_toArray, List.set_cons_zero, List.set_cons_succ]
        refine heldL_take (i := 22) (v := ?_) rfl (by kernel_rfl) (by kernel_rfl) (by kernel_rfl) (by kernel_rfl) (fun _ _ _ h => h) (Or.inl ⟨by rfl, ?_⟩) (by assumption) ?_
        rotate_left
        · intro w hSw; (try dsimp only at hSw); have c0 := CX.out w hSw; go_simp; try with_reducible rfl
        try simp only [Act.put, List.setIfInBounds_toArray, List.set_cons_zero, List.set_cons_succ]
        obtain ⟨a3, n3, c3, rfl⟩ := C5.out.shape
        have s0 := (R0.out.ex XD5.out).cell
        have s1 := (R0.out.ex XD5.out).soft
        refine heldL_store_ct 51 49 (by kernel_rfl) (by kernel_rfl) (by kernel_rfl) (by rfl) (by rfl) s0 s1 ?_
        clear s0 s1
        have CE := Lib.hid (rt_store R0.out C5.out)
        obtain ⟨Z, hZ⟩ : ∃ Z, Z = Y5.setCell ⟨xb, 0, none⟩ (.slice a3 n3 c3) := ⟨_, rfl⟩
        rw [← hZ] at CE ⊢
        clear hZ
        rotate_left
        all_goals
          clear CX
          go_wp2_with fail
          all_goals exact Go.Great.bodyPost_end0 rfl rfl ⟨rfl, ⟨_, addR_is (L := []) x gg s HKI.out ▸ CE.out.1, fun g hg => .inr (Nat.le_trans HXX.out.size (CE.out.2.2 g hg))⟩, (HXX.out.chg _).trans CE.out.2.1 (fun _ _ h => h)⟩
      · have hvc' : (L.length : Int) ≤ (vc : Int) := by omega
        have hkl : 0 ≤ L.length := Nat.zero_le _
        have hki : (0 : Int) ≤ (L.length : Int) := by omega
        have hkc : (0 : Int) ≤ (vc : Int) := by omega
        have NW1 := Lib.hid (fun W (hW : Ex w.drew W) => news_takeR (hrd W ((ex_drw w).trans hW)) 0)
        have NW3 := Lib.hid (fun W (hW : Ex w.drew W) => news_dropR (hrd W ((ex_drw w).trans hW)) 0 vc hvc)
        clear hrd HSH
        refine wp_region_last (S := fun w' => Ex w.drew w') 23 24 (by kernel_rfl) (by kernel_rfl) (by kernel_rfl) (Ex.refl _) (fun hHeld => ?_)
        have XD0 := Lib.hid (Ex.refl w.drew)
        generalize w.drew = Y0 at *
        refine heldL_take (i := 0) (v := ?_) rfl (by kernel_rfl) (by kernel_rfl) (by kernel_rfl) (by kernel_rfl) (fun _ _ _ h => h) (Or.inl ⟨by rfl, ?_⟩) (by assumption) ?_
        rotate_left
        · intro w hSw; (try dsimp only at hSw); have c0 := CX.out w hSw; go_simp; try with_reducible rfl
        try simp only [Act.put, List.setIfInBounds_toArray, List.set_cons_zero, List.set_cons_succ]
        refine heldL_take (i := 2) (v := ?_) rfl (by kernel_rfl) (by kernel_rfl) (by kernel_rfl) (by kernel_rfl) (fun _ _ _ h => h) (Or.inl ⟨by rfl, ?_⟩) (by assumption) ?_
        rotate_left
        · intro w hSw; (try dsimp only at hSw); have c0 := CX.out w hSw; go_simp; try with_reducible rfl
        try simp only [Act.put, List.setIfInBounds_toArray, List.set_cons_zero, List.set_cons_succ]
        refine heldL_take (i := 3) (v := ?_) rfl (by kernel_rfl) (by kernel_rfl) (by kernel_rfl) (by kernel_rfl) (fun _ _ _ h => h) (Or.inl ⟨by rfl, ?_⟩) (by assumption) ?_
        rotate_left
        · intro w hSw; (try dsimp only at hSw); have c0 := CX.out w hSw; go_simp; try with_reducible rfl
        try simp only [Act.put, List.setIfInBounds_toArray, List.set_cons_zero, List.set_cons_succ]
        refine heldL_take (i := 4) (v := ?_) rfl (by kernel_rfl) (by kernel_rfl) (by kernel_rfl) (by kernel_rfl) (fun _ _ _ h => h) (Or.inl ⟨by rfl, ?_⟩) (by assumption) ?_
        rotate_left
        · intro w hSw; (try dsimp only at hSw); have c0 := CX.out w hSw; go_simp; try with_reducible rfl
        try simp only [Act.put, List.setIfInBounds_toArray, List.set_cons_zero, List.set_cons_succ]
        refine heldL_take (i := 5) (v := ?_) rfl (by kernel_rfl) (by kernel_rfl) (by kernel_rfl) (by kernel_rfl) (fun _ _ _ h => h) (Or.inl ⟨by rfl, ?_⟩) (by assumption) ?_
        rotate_left
        · intro w hSw; (try dsimp only at hSw); have c0 := CX.out w hSw; go_simp; try with_reducible rfl
        try simp only [Act.put, List.setIfInBounds_toArray, List.set_cons_zero, List.set_cons_succ]
        refine heldL_take (i := 6) (v := ?_) rfl (by kernel_rfl) (by kernel_rfl) (by kernel_rfl) (by kernel_rfl) (fun _ _ _ h => h) (Or.inl ⟨by rfl, ?_⟩) (by assumption) ?_
        rotate_left
        · intro w hSw; (try dsimp only at hSw); have c0 := CX.out w hSw; go_simp; try with_reducible rfl
        try simp only [Act.put, List.setIfInBounds_toArray, List.set_cons_zero, List.set_cons_succ]
        refine heldL_take (i := 7) (v := ?_) rfl (by kernel_rfl) (by kernel_rfl) (by kernel_rfl) (by kernel_rfl) (fun _ _ _ h => h) (Or.inl ⟨by rfl, ?_⟩) (by assumption) ?_
        rotate_left
        · intro w hSw; (try dsimp only at hSw); have c0 := CX.out w hSw; go_simp; try with_reducible rfl
        try simp only [Act.put, List.setIfInBounds_toArray, List.set_cons_zero, List.set_cons_succ]
        refine heldL_take (i := 9) (v := ?_) rfl (by kernel_rfl) (by kernel_rfl) (by kernel_rfl) (by kernel_rfl) (fun _ _ _ h => h) (Or.inl ⟨by rfl, ?_⟩) (by assumption) ?_
        rotate_left
        · intro w hSw; (try dsimp only at hSw); have c0 := CX.out w hSw; go_simp; try with_reducible rfl
        try simp only [Act.put, List.setIfInBounds_toArray, List.set_cons_zero, List.set_cons_succ]
        refine heldL_take (i := 10) (v := ?_) rfl (by kernel_rfl) (by kernel_rfl) (by kernel_rfl) (by kernel_rfl) (fun _ _ _ h => h) (Or.inl ⟨by rfl, ?_⟩) (by assumption) ?_
        rotate_left
        · intro w hSw; (try dsimp only at hSw); have c0 := CX.out w hSw; go_simp; try with_reducible rfl
        try simp only [Act.put, List.setIfInBounds_toArray, List.set_cons_zero, List.set_cons_succ]
        refine heldL_take (i := 11) (v := ?_) rfl (by kernel_rfl) (by kernel_rfl) (by kernel_rfl) (by kernel_rfl) (fun _ _ _ h => h) (Or.inl ⟨by rfl, ?_⟩) (by assumption) ?_
        rotate_left
        · intro w hSw; (try dsimp only at hSw); have c0 := CX.out w hSw; go_simp; try with_reducible rfl
        try simp only [Act.put, List.setIfInBounds_toArray, List.set_cons_zero, List.set_cons_succ]
        refine heldL_take (i := 14) (v := ?_) rfl (by kernel_rfl) (by kernel_rfl) (by kernel_rfl) (by kernel_rfl) (fun _ _ _ h => h) (Or.inl ⟨by rfl, ?_⟩) (by assumption) ?_
        rotate_left
        · intro w hSw; (try dsimp only at hSw); have c0 := CX.out w hSw; go_simp; try with_reducible rfl
        try simp only [Act.put, List.setIfInBounds_toArray, List.set_cons_zero, List.set_cons_succ]
        refine heldL_take (i := 15) (v := ?_) rfl (by kernel_rfl) (by kernel_rfl) (by kernel_rfl) (by kernel_rfl) (fun _ _ _ h => h) (Or.inl ⟨by rfl, ?_⟩) (by assumption) ?_
        rotate_left
        · intro w hSw; (try dsimp only at hSw); have c0 := CX.out w hSw; go_simp; try with_reducible rfl
        try simp only [Act.put, List.setIfInBounds_toArray, List.set_cons_zero, List.set_cons_succ]
        refine heldL_take (i := 16) (v := ?_) rfl (by kernel_rfl) (by kernel_rfl) (by kernel_rfl) (by kernel_rfl) (fun _ _ _ h => h) (Or.inl ⟨by rfl, ?_⟩) (by assumption) ?_
        rotate_left
        · intro w hSw; (try dsimp only at hSw); have c0 := CX.out w hSw; go_simp; try with_reducible rfl
        try simp only [Act.put, List.setIfInBounds_toArray, List.set_cons_zero, List.set_cons_succ]
        refine heldL_take (i := 17) (v := ?_) rfl (by kernel_rfl) (by kernel_rfl) (by kernel_rfl) (by kernel_rfl) (fun _ _ _ h => h) (Or.inl ⟨by rfl, ?_⟩) (by assumption) ?_
        rotate_left
        · intro w hSw; (try dsimp only at hSw); have c0 := CX.out w hSw; go_simp; try with_reducible rfl
        try simp only [Act.put, List.setIfInBounds_toArray, List.set_cons_zero, List.set_cons_succ]
        refine heldL_take (i := 18) (v := ?_) rfl (by kernel_rfl) (by kernel_rfl) (by kernel_rfl) (by kernel_rfl) (fun _ _ _ h => h) (Or.inl ⟨by rfl, ?_⟩) (by assumption) ?_
        rotate_left
        · intro w hSw; (try dsimp only at hSw); have c0 := CX.out w hSw; go_simp; try with_reducible rfl
        try simp only [Act.put, List.setIfInBounds_toArray, List.set_cons_zero, List.set_cons_succ]
        refine heldL_take (i := 19) (v := ?_) rfl (by kernel_rfl) (by kernel_rfl) (by kernel_rfl) (by kernel_rfl) (fun _ _ _ h => h) (Or.inl ⟨by rfl, ?_⟩) (by assumption) ?_
        rotate_left
        · intro w hSw; (try dsimp only at hSw); have c0 := CX.out w hSw; go_simp; try with_reducible rfl
        try simp only [Act.put, List.setIfInBounds_toArray, List.set_cons_zero, List.set_cons_succ]
        refine heldL_ready (rs := [1, 12]) (by kernel_rfl) (by simp) ?_
        refine AllL.cons rfl (fun K hK => ?_) (AllL.cons rfl (fun K hK => ?_) AllL.nil)
        go_simp
        have hx := (XD0.out.trans (Ex.made Y0 (.cells #[] 45)))
        refine hK.out _ _ (fun _ => hx) (fun _ => ?_)
        clear hK K
        try simp only [Act.put, List.setIfInBounds_toArray, List.set_cons_zero, List.set_cons_succ]
        have hc := CT.lit XD0.out
        obtain ⟨e0, he0⟩ : ∃ e0, Y0.heap.size = e0 := ⟨_, rfl⟩
        rw [he0] at hc ⊢
        obtain ⟨v0, hv0⟩ : ∃ v0, Value.slice (some ⟨e0, 0, none⟩) 0 0 = v0 := ⟨_, rfl⟩
        have hne : ∀ q, v0.ownBlock = some q → q = e0 := fun q hq => by rw [← hv0] at hq; cases hq; rfl
        rw [hv0] at hc ⊢
        obtain ⟨Y1, hY⟩ : ∃ Y, Y = Y0.alloc (.cells #[] 45) := ⟨_, rfl⟩
        rw [← hY] at hx hc ⊢
        have hHeld := hx
        have XD1 := Lib.hid hx
        have C1 := Lib.hid hc
        clear hY hx hc hv0 hne he0
        refine heldL_ready (rs := [8, 12]) (by kernel_rfl) (by simp) ?_
        refine AllL.cons rfl (fun K hK => ?_) (AllL.cons rfl (fun K hK => ?_) AllL.nil)
        refine step_append_ct rfl (.tmp 30) (.tmp 36) 37 rfl C1.out (by rfl) _ _ _ (by rfl) (L.take 0) (by simp <;> omega) ?_ (NW1.out Y1 XD1.out) (by simp <;> omega) ?_
        · intro hao; first | cases hao | (split at hao <;> cases hao) | (simp at hao; try omega)
        intro v1 Y2 hc hg hat
        refine hK.out _ _ (fun _ => hc.ex) (fun _ => ?_)
        clear hK K
        try simp only [Act.put, List.setIfInBounds_toArray, List.set_cons_zero, List.set_cons_succ]
        have hHeld := hc.ex
        have XD2 := Lib.hid hc.ex
        have C2 := Lib.hid hc
        clear hc hg hat
        refine heldL_ready (rs := [12]) (by kernel_rfl) (by simp) ?_
        refine AllL.cons rfl (fun K hK => ?_) AllL.nil
        go_simp
        have hx := (XD2.out.trans (Ex.made Y2 (.cells #[.int .i64 x, .int .i64 gg] 45)))
        refine hK.out _ _ (fun _ => hx) (fun _ => ?_)
        clear hK K
        try simp only [Act.put, List.setIfInBounds_toArray, List.set_cons_zero, List.set_cons_succ]
        have hb := Box.fresh Y2 #[.int .i64 x, .int .i64 gg] 45
        have hc := C2.out.made (.cells #[.int .i64 x, .int .i64 gg] 45)
        have hne := C2.out.new
        obtain ⟨nb, hnb⟩ : ∃ b, Y2.heap.size = b := ⟨_, rfl⟩
        rw [hnb] at hb hne ⊢
        obtain ⟨Y3, hY⟩ : ∃ Y, Y = Y2.alloc (.cells #[.int .i64 x, .int .i64 gg] 45) := ⟨_, rfl⟩
        rw [← hY] at hx hb hc ⊢
        have hHeld := hx
        have XD3 := Lib.hid hx
        have B3 := Lib.hid hb
        have C3 := Lib.hid hc
        have NE3 := Lib.hid hne
        clear hc hne
        clear hY hnb hx hb
        refine heldL_ready (rs := [13]) (by kernel_rfl) (by simp) ?_
        refine AllL.cons rfl (fun K hK => ?_) AllL.nil
        refine step_append_ct rfl (.tmp 37) (.tmp 41) 37 rfl C3.out (by rfl) _ _ _ (by rfl) ([(x, gg, s)]) (by simp <;> omega) ?_ ((fun ad had => by cases had; exact box_news2 B3.out)) (by simp <;> omega) ?_
        · intro hao; first | cases hao | (split at hao <;> cases hao) | (simp at hao; try omega)
        intro v2 Y4 hc hg hat
        refine hK.out _ _ (fun _ => hc.ex) (fun _ => ?_)
        clear hK K
        try simp only [Act.put, List.setIfInBounds_toArray, List.set_cons_zero, List.set_cons_succ]
        have hHeld := hc.ex
        have XD4 := Lib.hid hc.ex
        have C4 := Lib.hid hc
        clear hc hg hat
        refine heldL_ready (rs := [20]) (by kernel_rfl) (by simp) ?_
        refine AllL.cons rfl (fun K hK => ?_) AllL.nil
        refine step_append_ct rfl (.tmp 42) (.tmp 48) 37 rfl C4.out (by rfl) _ _ _ (by rfl) (L.drop 0) (by simp <;> omega) ?_ (NW3.out Y4 XD4.out _ (by intro h; first | rfl | simp [h])) (by simp <;> omega) ?_
        · intro hao; first | cases hao | (split at hao <;> cases hao) | (simp at hao; try omega)
        intro v3 Y5 hc hg hat
        refine hK.out _ _ (fun _ => hc.ex) (fun _ => ?_)
        clear hK K
        try simp only [Act.put, List.setIfInBounds_toArray, List.set_cons_zero, List.set_cons_succ]
        have hHeld := hc.ex
        have XD5 := Lib.hid hc.ex
        have C5 := Lib.hid hc
        clear hc hg hat
        refine heldL_take (i := 21) (v := ?_) rfl (by kernel_rfl) (by kernel_rfl) (by kernel_rfl) (by kernel_rfl) (fun _ _ _ h => h) (Or.inl ⟨by rfl, ?_⟩) (by assumption) ?_
        rotate_left
        · intro w hSw; (try dsimp only at hSw); have c0 := CX.out w hSw; go_simp; try with_reducible rfl
        try simp only [Act.put, List.setIfInBounds_toArray, List.set_cons_zero, List.set_cons_succ]
        refine heldL_take (i := 22) (v := ?_) rfl (by kernel_rfl) (by kernel_rfl) (by kernel_rfl) (by kernel_rfl) (fun _ _ _ h => h) (Or.inl ⟨by rfl, ?_⟩) (by assumption) ?_
        rotate_left
        · intro w hSw; (try dsimp only at hSw); have c0 := CX.out w hSw; go_simp; try with_reducible rfl
        try simp only [Act.put, List.setIfInBounds_toArray, List.set_cons_zero, List.set_cons_succ]
        obtain ⟨a3, n3, c3, rfl⟩ := C5.out.shape
        have s0 := (R0.out.ex XD5.out).cell
        have s1 := (R0.out.ex XD5.out).soft
        refine heldL_store_ct 51 49 (by kernel_rfl) (by kernel_rfl) (by kernel_rfl) (by rfl) (by rfl) s0 s1 ?_
        clear s0 s1
        have CE := Lib.hid (rt_store R0.out C5.out)
        obtain ⟨Z, hZ⟩ : ∃ Z, Z = Y5.setCell ⟨xb, 0, none⟩ (.slice a3 n3 c3) := ⟨_, rfl⟩
        rw [← hZ] at CE ⊢
        clear hZ
        rotate_left
        go_simp
        have hx := (XD1.out.trans (Ex.made Y1 (.cells #[.int .i64 x, .int .i64 gg] 45)))
        refine hK.out _ _ (fun _ => hx) (fun _ => ?_)
        clear hK K
        try simp only [Act.put, List.setIfInBounds_toArray, List.set_cons_zero, List.set_cons_succ]
        have hb := Box.fresh Y1 #[.int .i64 x, .int .i64 gg] 45
        have hc := C1.out.made (.cells #[.int .i64 x, .int .i64 gg] 45)
        have hne := C1.out.new
        obtain ⟨nb, hnb⟩ : ∃ b, Y1.heap.size = b := ⟨_, rfl⟩
        rw [hnb] at hb hne ⊢
        obtain ⟨Y2, hY⟩ : ∃ Y, Y = Y1.alloc (.cells #[.int .i64 x, .int .i64 gg] 45) := ⟨_, rfl⟩
        rw [← hY] at hx hb hc ⊢
        have hHeld := hx
        have XD2 := Lib.hid hx
        have B2 := Lib.hid hb
        have C2 := Lib.hid hc
        have NE2 := Lib.hid hne
        clear hc hne
        clear hY hnb hx hb
        refine heldL_ready (rs := [8]) (by kernel_rfl) (by simp) ?_
        refine AllL.cons rfl (fun K hK => ?_) AllL.nil
        refine step_append_ct rfl (.tmp 30) (.tmp 36) 37 rfl C2.out (by rfl) _ _ _ (by rfl) (L.take 0) (by simp <;> omega) ?_ (NW1.out Y2 XD2.out) (by simp <;> omega) ?_
        · intro hao; first | cases hao | (split at hao <;> cases hao) | (simp at hao; try omega)
        intro v1 Y3 hc hg hat
        refine hK.out _ _ (fun _ => hc.ex) (fun _ => ?_)
        clear hK K
        try simp only [Act.put, List.setIfInBounds_toArray, List.set_cons_zero, List.set_cons_succ]
        have hHeld := hc.ex
        have XD3 := Lib.hid hc.ex
        have C3 := Lib.hid hc
        have B3 := Lib.hid (box_far B2.out NE2.out hg)
        have NE3 := Lib.hid (own_far B2.out NE2.out hat)
        clear hc hg hat
        refine heldL_ready (rs := [13]) (by kernel_rfl) (by simp) ?_
        refine AllL.cons rfl (fun K hK => ?_) AllL.nil
        refine step_append_ct rfl (.tmp 37) (.tmp 41) 37 rfl C3.out (by rfl) _ _ _ (by rfl) ([(x, gg, s)]) (by simp <;> omega) ?_ ((fun ad had => by cases had; exact box_news2 B3.out)) (by simp <;> omega) ?_
        · intro hao; first | cases hao | (split at hao <;> cases hao) | (simp at hao; try omega)
        intro v2 Y4 hc hg hat
        refine hK.out _ _ (fun _ => hc.ex) (fun _ => ?_)
        clear hK K
        try simp only [Act.put, List.setIfInBounds_toArray, List.set_cons_zero, List.set_cons_succ]
        have hHeld := hc.ex
        have XD4 := Lib.hid hc.ex
        have C4 := Lib.hid hc
        clear hc hg hat
        refine heldL_ready (rs := [20]) (by kernel_rfl) (by simp) ?_
        refine AllL.cons rfl (fun K hK => ?_) AllL.nil
        refine step_append_ct rfl (.tmp 42) (.tmp 48) 37 rfl C4.out (by rfl) _ _ _ (by rfl) (L.drop 0) (by simp <;> omega) ?_ (NW3.out Y4 XD4.out _ (by intro h; first | rfl | simp [h])) (by simp <;> omega) ?_
        · intro hao; first | cases hao | (split at hao <;> cases hao) | (simp at hao; try omega)
        intro v3 Y5 hc hg hat
        refine hK.out _ _ (fun _ => hc.ex) (fun _ => ?_)
        clear hK K
        try simp only [Act.put, List.setIfInBounds_toArray, List.set_cons_zero, List.set_cons_succ]
        have hHeld := hc.ex
        have XD5 := Lib.hid hc.ex
        have C5 := Lib.hid hc
        clear hc hg hat
        refine heldL_take (i := 21) (v := ?_) rfl (by kernel_rfl) (by kernel_rfl) (by kernel_rfl) (by kernel_rfl) (fun _ _ _ h => h) (Or.inl ⟨by rfl, ?_⟩) (by assumption) ?_
        rotate_left
        · intro w hSw; (try dsimp only at hSw); have c0 := CX.out w hSw; go_simp; try with_reducible rfl
        try simp only [Act.put, List.setIfInBounds_toArray, List.set_cons_zero, List.set_cons_succ]
        refine heldL_take (i := 22) (v := ?_) rfl (by kernel_rfl) (by kernel_rfl) (by kernel_rfl) (by kernel_rfl) (fun _ _ _ h => h) (Or.inl ⟨by rfl, ?_⟩) (by assumption) ?_
        rotate_left
        · intro w hSw; (try dsimp only at hSw); have c0 := CX.out w hSw; go_simp; try with_reducible rfl
        try simp only [Act.put, List.setIfInBounds_toArray, List.set_cons_zero, List.set_cons_succ]
        obtain ⟨a3, n3, c3, rfl⟩ := C5.out.shape
        have s0 := (R0.out.ex XD5.out).cell
        have s1 := (R0.out.ex XD5.out).soft
        refine heldL_store_ct 51 49 (by kernel_rfl) (by kernel_rfl) (by kernel_rfl) (by rfl) (by rfl) s0 s1 ?_
        clear s0 s1
        have CE := Lib.hid (rt_store R0.out C5.out)
        obtain ⟨Z, hZ⟩ : ∃ Z, Z = Y5.setCell ⟨xb, 0, none⟩ (.slice a3 n3 c3) := ⟨_, rfl⟩
        rw [← hZ] at CE ⊢
        clear hZ
        rotate_left
        go_simp
        have hx := (XD0.out.trans (Ex.made Y0 (.cells #[.int .i64 x, .int .i64 gg] 45)))
        refine hK.out _ _ (fun _ => hx) (fun _ => ?_)
        clear hK K
        try simp only [Act.put, List.setIfInBounds_toArray, List.set_cons_zero, List.set_cons_succ]
        have hb := Box.fresh Y0 #[.int .i64 x, .int .i64 gg] 45
        obtain ⟨nb, hnb⟩ : ∃ b, Y0.heap.size = b := ⟨_, rfl⟩
        rw [hnb] at hb ⊢
        obtain ⟨Y1, hY⟩ : ∃ Y, Y = Y0.alloc (.cells #[.int .i64 x, .int .i64 gg] 45) := ⟨_, rfl⟩
        rw [← hY] at hx hb ⊢
        have hHeld := hx
        have XD1 := Lib.hid hx
        have B1 := Lib.hid hb
        clear hY hnb hx hb
        refine heldL_ready (rs := [1]) (by kernel_rfl) (by simp) ?_
        refine AllL.cons rfl (fun K hK => ?_) AllL.nil
        go_simp
        have hx := (XD1.out.trans (Ex.made Y1 (.cells #[] 45)))
        refine hK.out _ _ (fun _ => hx) (fun _ => ?_)
        clear hK K
        try simp only [Act.put, List.setIfInBounds_toArray, List.set_cons_zero, List.set_cons_succ]
        have hc := CT.lit XD1.out
        have hb := (B1.out.ex (Ex.made Y1 (.cells #[] 45)))
        have hlt := B1.out.lt
        obtain ⟨e0, he0⟩ : ∃ e0, Y1.heap.size = e0 := ⟨_, rfl⟩
        rw [he0] at hc ⊢
        rw [he0] at hlt
        obtain ⟨v0, hv0⟩ : ∃ v0, Value.slice (some ⟨e0, 0, none⟩) 0 0 = v0 := ⟨_, rfl⟩
        have hne : ∀ q, v0.ownBlock = some q → q = e0 := fun q hq => by rw [← hv0] at hq; cases hq; rfl
        rw [hv0] at hc ⊢
        obtain ⟨Y2, hY⟩ : ∃ Y, Y = Y1.alloc (.cells #[] 45) := ⟨_, rfl⟩
        rw [← hY] at hx hc hb ⊢
        have hHeld := hx
        have XD2 := Lib.hid hx
        have C2 := Lib.hid hc
        have B2 := Lib.hid hb
        have NE2 : Hid (v0.ownBlock ≠ some nb) := Lib.hid (fun e => by have := hne nb e; omega)
        clear hb hlt
        clear hY hx hc hv0 hne he0
        refine heldL_ready (rs := [8]) (by kernel_rfl) (by simp) ?_
        refine AllL.cons rfl (fun K hK => ?_) AllL.nil
        refine step_append_ct rfl (.tmp 30) (.tmp 36) 37 rfl C2.out (by rfl) _ _ _ (by rfl) (L.take 0) (by simp <;> omega) ?_ (NW1.out Y2 XD2.out) (by simp <;> omega) ?_
        · intro hao; first | cases hao | (split at hao <;> cases hao) | (simp at hao; try omega)
        intro v1 Y3 hc hg hat
        refine hK.out _ _ (fun _ => hc.ex) (fun _ => ?_)
        clear hK K
        try simp only [Act.put, List.setIfInBounds_toArray, List.set_cons_zero, List.set_cons_succ]
        have hHeld := hc.ex
        have XD3 := Lib.hid hc.ex
        have C3 := Lib.hid hc
        have B3 := Lib.hid (box_far B2.out NE2.out hg)
        have NE3 := Lib.hid (own_far B2.out NE2.out hat)
        clear hc hg hat
        refine heldL_ready (rs := [13]) (by kernel_rfl) (by simp) ?_
        refine AllL.cons rfl (fun K hK => ?_) AllL.nil
        refine step_append_ct rfl (.tmp 37) (.tmp 41) 37 rfl C3.out (by rfl) _ _ _ (by rfl) ([(x, gg, s)]) (by simp <;> omega) ?_ ((fun ad had => by cases had; exact box_news2 B3.out)) (by simp <;> omega) ?_
        · intro hao; first | cases hao | (split at hao <;> cases hao) | (simp at hao; try omega)
        intro v2 Y4 hc hg hat
        refine hK.out _ _ (fun _ => hc.ex) (fun _ => ?_)
        clear hK K
        try simp only [Act.put, List.setIfInBounds_toArray, List.set_cons_zero, List.set_cons_succ]
        have hHeld := hc.ex
        have XD4 := Lib.hid hc.ex
        have C4 := Lib.hid hc
        clear hc hg hat
        refine heldL_ready (rs := [20]) (by kernel_rfl) (by simp) ?_
        refine AllL.cons rfl (fun K hK => ?_) AllL.nil
        refine step_append_ct rfl (.tmp 42) (.tmp 48) 37 rfl C4.out (by rfl) _ _ _ (by rfl) (L.drop 0) (by simp <;> omega) ?_ (NW3.out Y4 XD4.out _ (by intro h; first | rfl | simp [h])) (by simp <;> omega) ?_
        · intro hao; first | cases hao | (split at hao <;> cases hao) | (simp at hao; try omega)
        intro v3 Y5 hc hg hat
        refine hK.out _ _ (fun _ => hc.ex) (fun _ => ?_)
        clear hK K
        try simp only [Act.put, List.setIfInBounds_toArray, List.set_cons_zero, List.set_cons_succ]
        have hHeld := hc.ex
        have XD5 := Lib.hid hc.ex
        have C5 := Lib.hid hc
        clear hc hg hat
        refine heldL_take (i := 21) (v := ?_) rfl (by kernel_rfl) (by kernel_rfl) (by kernel_rfl) (by kernel_rfl) (fun _ _ _ h => h) (Or.inl ⟨by rfl, ?_⟩) (by assumption) ?_
        rotate_left
        · intro w hSw; (try dsimp only at hSw); have c0 := CX.out w hSw; go_simp; try with_reducible rfl
        try simp only [Act.put, List.setIfInBounds_toArray, List.set_cons_zero, List.set_cons_succ]
        refine heldL_take (i := 22) (v := ?_) rfl (by kernel_rfl) (by kernel_rfl) (by kernel_rfl) (by kernel_rfl) (fun _ _ _ h => h) (Or.inl ⟨by rfl, ?_⟩) (by assumption) ?_
        rotate_left
        · intro w hSw; (try dsimp only at hSw); have c0 := CX.out w hSw; go_simp; try with_reducible rfl
        try simp only [Act.put, List.setIfInBounds_toArray, List.set_cons_zero, List.set_cons_succ]
        obtain ⟨a3, n3, c3, rfl⟩ := C5.out.shape
        have s0 := (R0.out.ex XD5.out).cell
        have s1 := (R0.out.ex XD5.out).soft
        refine heldL_store_ct 51 49 (by kernel_rfl) (by kernel_rfl) (by kernel_rfl) (by rfl) (by rfl) s0 s1 ?_
        clear s0 s1
        have CE := Lib.hid (rt_store R0.out C5.out)
        obtain ⟨Z, hZ⟩ : ∃ Z, Z = Y5.setCell ⟨xb, 0, none⟩ (.slice a3 n3 c3) := ⟨_, rfl⟩
        rw [← hZ] at CE ⊢
        clear hZ
        rotate_left
        all_goals
          clear CX NW1 NW3
          go_wp2_with fail
          all_goals exact Go.Great.bodyPost_end0 rfl rfl ⟨rfl, ⟨_, addR_is x gg s HKI.out ▸ CE.out.1, fun g hg => .inr (Nat.le_trans HXX.out.size (CE.out.2.2 g hg))⟩, (HXX.out.chg _).trans CE.out.2.1 (fun _ _ h => h)⟩
    | succ j =>
      obtain ⟨kk, hkk⟩ : ∃ kk, j + 1 = kk := ⟨_, rfl⟩
      rw [hkk] at hj HC ⊢
      have HKK := Lib.hid hkk
      obtain ⟨y, hy⟩ : ∃ y, (at3 L j).1 = y := ⟨_, rfl⟩
      have r0 : (kk : Int) - 1 = (j : Int) := by omega
      have r1 : wrap64 (j : Int) = (j : Int) := by unfold wrap64; omega
      have r2 : (0 : Int) < (kk : Int) := by omega
      have r4 : 0 < kk := by omega
      have r5 : decide (0 < kk) = true := decide_eq_true r4
      have r3 : (j : Int) < (L.length : Int) := by omega
      have hL : L ≠ [] := fun e => by rw [e] at hj; simp at hj; omega
      rcases HSH.out with ⟨-, -, h0⟩ | ⟨g, off, rfl, hvc, hrd⟩
      · exact absurd h0 hL
      have c1 : w.cell? ⟨g, off + j * 2, none⟩ = some (.int .i64 y) := hy ▸ (hrd w (Ex.refl w) j (by omega)).1
      have HYV := Lib.hid hy
      have HJ : Hid (kk ≤ L.length) := Lib.hid hj
      have ra : (j : Int) ≤ 200 := by omega
      have HRD := Lib.hid hrd
      have HVC := Lib.hid hvc
      clear hy hrd hvc hj hkk hL
      by_cases hlt : x < y
      · have hb : decide (x < y) = true := decide_eq_true hlt
        go_wp2_with fail
        go_roundw
        case rel =>
          refine ⟨j, by have := HJ.out; have := HKK.out; omega, rfl, ?_, by first | rfl | trivial⟩
          rw [← HC.out, ← HKK.out, cutT, HYV.out, if_pos hlt]
        case measure => have := HKK.out; simp [intOf]; omega
      · have hb : decide (x < y) = false := decide_eq_false hlt
        have HLT := Lib.hid hlt
        go_upto_region 3 with fail
        have CX := Lib.hid (fun W (hW : Ex w.drew W) => (H.out.ex ((ex_drw w).trans hW)).cell)
        have R0 := Lib.hid (H.out.ex (ex_drw w))
        have HXX := Lib.hid (ex_drw w)
        have HKI : Hid (cutT L x L.length = kk) := Lib.hid (by rw [← HC.out, ← HKK.out, cutT, HYV.out, if_neg HLT.out])
        clear c0 c1 HC HSH
        have hvc' : (L.length : Int) ≤ (vc : Int) := by have := HVC.out; omega
        have hkl : kk ≤ L.length := HJ.out
        have hki : (kk : Int) ≤ (L.length : Int) := by omega
        have hkc : (kk : Int) ≤ (vc : Int) := by omega
        have NW1 := Lib.hid (fun W (hW : Ex w.drew W) => news_takeR (HRD.out W ((ex_drw w).trans hW)) kk)
        have NW3 := Lib.hid (fun W (hW : Ex w.drew W) => news_dropR (HRD.out W ((ex_drw w).trans hW)) kk vc HVC.out)
        refine wp_region_last (S := fun w' => Ex w.drew w') 23 24 (by kernel_rfl) (by kernel_rfl) (by kernel_rfl) (Ex.refl _) (fun hHeld => ?_)
        have XD0 := Lib.hid (Ex.refl w.drew)
        generalize w.drew = Y0 at *
        refine heldL_take (i := 0) (v := ?_) rfl (by kernel_rfl) (by kernel_rfl) (by kernel_rfl) (by kernel_rfl) (fun _ _ _ h => h) (Or.inl ⟨by rfl, ?_⟩) (by assumption) ?_
        rotate_left
        · intro w hSw; (try dsimp only at hSw); have c0 := CX.out w hSw; go_simp; try with_reducible rfl
        try simp only [Act.put, List.setIfInBounds_toArray, List.set_cons_zero, List.set_cons_succ]
        refine heldL_take (i := 2) (v := ?_) rfl (by kernel_rfl) (by kernel_rfl) (by kernel_rfl) (by kernel_rfl) (fun _ _ _ h => h) (Or.inl ⟨by rfl, ?_⟩) (by assumption) ?_
        rotate_left
        · intro w hSw; (try dsimp only at hSw); have c0 := CX.out w hSw; go_simp; try with_reducible rfl
        try simp only [Act.put, List.setIfInBounds_toArray, List.set_cons_zero, List.set_cons_succ]
        refine heldL_take (i := 3) (v := ?_) rfl (by kernel_rfl) (by kernel_rfl) (by kernel_rfl) (by kernel_rfl) (fun _ _ _ h => h) (Or.inl ⟨by rfl, ?_⟩) (by assumption) ?_
        rotate_left
        · intro w hSw; (try dsimp only at hSw); have c0 := CX.out w hSw; go_simp; try with_reducible rfl
        try simp only [Act.put, List.setIfInBounds_toArray, List.set_cons_zero, List.set_cons_succ]
        refine heldL_take (i := 4) (v := ?_) rfl (by kernel_rfl) (by kernel_rfl) (by kernel_rfl) (by kernel_rfl) (fun _ _ _ h => h) (Or.inl ⟨by rfl, ?_⟩) (by assumption) ?_
        rotate_left
        · intro w hSw; (try dsimp only at hSw); have c0 := CX.out w hSw; go_simp; try with_reducible rfl
        try simp only [Act.put, List.setIfInBounds_toArray, List.set_cons_zero, List.set_cons_succ]
        refine heldL_take (i := 5) (v := ?_) rfl (by kernel_rfl) (by kernel_rfl) (by kernel_rfl) (by kernel_rfl) (fun _ _ _ h => h) (Or.inl ⟨by rfl, ?_⟩) (by assumption) ?_
        rotate_left
        · intro w hSw; (try dsimp only at hSw); have c0 := CX.out w hSw; go_simp; try with_reducible rfl
        try simp only [Act.put, List.setIfInBounds_toArray, List.set_cons_zero, List.set_cons_succ]
        refine heldL_take (i := 6) (v := ?_) rfl (by kernel_rfl) (by kernel_rfl) (by kernel_rfl) (by kernel_rfl) (fun _ _ _ h => h) (Or.inl ⟨by rfl, ?_⟩) (by assumption) ?_
        rotate_left
        · intro w hSw; (try dsimp only at hSw); have c0 := CX.out w hSw; go_simp; try with_reducible rfl
        try simp only [Act.put, List.setIfInBounds_toArray, List.set_cons_zero, List.set_cons_succ]
        refine heldL_take (i := 7) (v := ?_) rfl (by kernel_rfl) (by kernel_rfl) (by kernel_rfl) (by kernel_rfl) (fun _ _ _ h => h) (Or.inl ⟨by rfl, ?_⟩) (by assumption) ?_
        rotate_left
        · intro w hSw; (try dsimp only at hSw); have c0 := CX.out w hSw; go_simp; try with_reducible rfl
        try simp only [Act.put, List.setIfInBounds_toArray, List.set_cons_zero, List.set_cons_succ]
        refine heldL_take (i := 9) (v := ?_) rfl (by kernel_rfl) (by kernel_rfl) (by kernel_rfl) (by kernel_rfl) (fun _ _ _ h => h) (Or.inl ⟨by rfl, ?_⟩) (by assumption) ?_
        rotate_left
        · intro w hSw; (try dsimp only at hSw); have c0 := CX.out w hSw; go_simp; try with_reducible rfl
        try simp only [Act.put, List.setIfInBounds_toArray, List.set_cons_zero, List.set_cons_succ]
        refine heldL_take (i := 10) (v := ?_) rfl (by kernel_rfl) (by kernel_rfl) (by kernel_rfl) (by kernel_rfl) (fun _ _ _ h => h) (Or.inl ⟨by rfl, ?_⟩) (by assumption) ?_
        rotate_left
        · intro w hSw; (try dsimp only at hSw); have c0 := CX.out w hSw; go_simp; try with_reducible rfl
        try simp only [Act.put, List.setIfInBounds_toArray, List.set_cons_zero, List.set_cons_succ]
        refine heldL_take (i := 11) (v := ?_) rfl (by kernel_rfl) (by kernel_rfl) (by kernel_rfl) (by kernel_rfl) (fun _ _ _ h => h) (Or.inl ⟨by rfl, ?_⟩) (by assumption) ?_
        rotate_left
        · intro w hSw; (try dsimp only at hSw); have c0 := CX.out w hSw; go_simp; try with_reducible rfl
        try simp only [Act.put, List.setIfInBounds_toArray, List.set_cons_zero, List.set_cons_succ]
        refine heldL_take (i := 14) (v := ?_) rfl (by kernel_rfl) (by kernel_rfl) (by kernel_rfl) (by kernel_rfl) (fun _ _ _ h => h) (Or.inl ⟨by rfl, ?_⟩) (by assumption) ?_
        rotate_left
        · intro w hSw; (try dsimp only at hSw); have c0 := CX.out w hSw; go_simp; try with_reducible rfl
        try simp only [Act.put, List.setIfInBounds_toArray, List.set_cons_zero, List.set_cons_succ]
        refine heldL_take (i := 15) (v := ?_) rfl (by kernel_rfl) (by kernel_rfl) (by kernel_rfl) (by kernel_rfl) (fun _ _ _ h => h) (Or.inl ⟨by rfl, ?_⟩) (by assumption) ?_
        rotate_left
        · intro w hSw; (try dsimp only at hSw); have c0 := CX.out w hSw; go_simp; try with_reducible rfl
        try simp only [Act.put, List.setIfInBounds_toArray, List.set_cons_zero, List.set_cons_succ]
        refine heldL_take (i := 16) (v := ?_) rfl (by kernel_rfl) (by kernel_rfl) (by kernel_rfl) (by kernel_rfl) (fun _ _ _ h => h) (Or.inl ⟨by rfl, ?_⟩) (by assumption) ?_
        rotate_left
        · intro w hSw; (try dsimp only at hSw); have c0 := CX.out w hSw; go_simp; try with_reducible rfl
        try simp only [Act.put, List.setIfInBounds_toArray, List.set_cons_zero, List.set_cons_succ]
        refine heldL_take (i := 17) (v := ?_) rfl (by kernel_rfl) (by kernel_rfl) (by kernel_rfl) (by kernel_rfl) (fun _ _ _ h => h) (Or.inl ⟨by rfl, ?_⟩) (by assumption) ?_
        rotate_left
        · intro w hSw; (try dsimp only at hSw); have c0 := CX.out w hSw; go_simp; try with_reducible rfl
        try simp only [Act.put, List.setIfInBounds_toArray, List.set_cons_zero, List.set_cons_succ]
        refine heldL_take (i := 18) (v := ?_) rfl (by kernel_rfl) (by kernel_rfl) (by kernel_rfl) (by kernel_rfl) (fun _ _ _ h => h) (Or.inl ⟨by rfl, ?_⟩) (by assumption) ?_
        rotate_left
        · intro w hSw; (try dsimp only at hSw); have c0 := CX.out w hSw; go_simp; try with_reducible rfl
        try simp only [Act.put, List.setIfInBounds_toArray, List.set_cons_zero, List.set_cons_succ]
        refine heldL_take (i := 19) (v := ?_) rfl (by kernel_rfl) (by kernel_rfl) (by kernel_rfl) (by kernel_rfl) (fun _ _ _ h => h) (Or.inl ⟨by rfl, ?_⟩) (by assumption) ?_
        rotate_left
        · intro w hSw; (try dsimp only at hSw); have c0 := CX.out w hSw; go_simp; try with_reducible rfl
        try simp only [Act.put, List.setIfInBounds_toArray, List.set_cons_zero, List.set_cons_succ]
        refine heldL_ready (rs := [1, 12]) (by kernel_rfl) (by simp) ?_
        refine AllL.cons rfl (fun K hK => ?_) (AllL.cons rfl (fun K hK => ?_) AllL.nil)
        go_simp
        have hx := (XD0.out.trans (Ex.made Y0 (.cells #[] 45)))
        refine hK.out _ _ (fun _ => hx) (fun _ => ?_)
        clear hK K
        try simp only [Act.put, List.setIfInBounds_toArray, List.set_cons_zero, List.set_cons_succ]
        have hc := CT.lit XD0.out
        obtain ⟨e0, he0⟩ : ∃ e0, Y0.heap.size = e0 := ⟨_, rfl⟩
        rw [he0] at hc ⊢
        obtain ⟨v0, hv0⟩ : ∃ v0, Value.slice (some ⟨e0, 0, none⟩) 0 0 = v0 := ⟨_, rfl⟩
        have hne : ∀ q, v0.ownBlock = some q → q = e0 := fun q hq => by rw [← hv0] at hq; cases hq; rfl
        rw [hv0] at hc ⊢
        obtain ⟨Y1, hY⟩ : ∃ Y, Y = Y0.alloc (.cells #[] 45) := ⟨_, rfl⟩
        rw [← hY] at hx hc ⊢
        have hHeld := hx
        have XD1 := Lib.hid hx
        have C1 := Lib.hid hc
        clear hY hx hc hv0 hne he0
        refine heldL_ready (rs := [8, 12]) (by kernel_rfl) (by simp) ?_
        refine AllL.cons rfl (fun K hK => ?_) (AllL.cons rfl (fun K hK => ?_) AllL.nil)
        refine step_append_ct rfl (.tmp 30) (.tmp 36) 37 rfl C1.out (by rfl) _ _ _ (by rfl) (L.take kk) (by simp <;> omega) ?_ (NW1.out Y1 XD1.out) (by simp <;> omega) ?_
        · intro hao; first | cases hao | (split at hao <;> cases hao) | (simp at hao; try omega)
        intro v1 Y2 hc hg hat
        refine hK.out _ _ (fun _ => hc.ex) (fun _ => ?_)
        clear hK K
        try simp only [Act.put, List.setIfInBounds_toArray, List.set_cons_zero, List.set_cons_succ]
        have hHeld := hc.ex
        have XD2 := Lib.hid hc.ex
        have C2 := Lib.hid hc
        clear hc hg hat
        refine heldL_ready (rs := [12]) (by kernel_rfl) (by simp) ?_
        refine AllL.cons rfl (fun K hK => ?_) AllL.nil
        go_simp
        have hx := (XD2.out.trans (Ex.made Y2 (.cells #[.int .i64 x, .int .i64 gg] 45)))
        refine hK.out _ _ (fun _ => hx) (fun _ => ?_)
        clear hK K
        try simp only [Act.put, List.setIfInBounds_toArray, List.set_cons_zero, List.set_cons_succ]
        have hb := Box.fresh Y2 #[.int .i64 x, .int .i64 gg] 45
        have hc := C2.out.made (.cells #[.int .i64 x, .int .i64 gg] 45)
        have hne := C2.out.new
        obtain ⟨nb, hnb⟩ : ∃ b, Y2.heap.size = b := ⟨_, rfl⟩
        rw [hnb] at hb hne ⊢
        obtain ⟨Y3, hY⟩ : ∃ Y, Y = Y2.alloc (.cells #[.int .i64 x, .int .i64 gg] 45) := ⟨_, rfl⟩
        rw [← hY] at hx hb hc ⊢
        have hHeld := hx
        have XD3 := Lib.hid hx
        have B3 := Lib.hid hb
        have C3 := Lib.hid hc
        have NE3 := Lib.hid hne
        clear hc hne
        clear hY hnb hx hb
        refine heldL_ready (rs := [13]) (by kernel_rfl) (by simp) ?_
        refine AllL.cons rfl (fun K hK => ?_) AllL.nil
        refine step_append_ct rfl (.tmp 37) (.tmp 41) 37 rfl C3.out (by rfl) _ _ _ (by rfl) ([(x, gg, s)]) (by simp <;> omega) ?_ ((fun ad had => by cases had; exact box_news2 B3.out)) (by simp <;> omega) ?_
        · intro hao; first | cases hao | (split at hao <;> cases hao) | (simp at hao; try omega)
        intro v2 Y4 hc hg hat
        refine hK.out _ _ (fun _ => hc.ex) (fun _ => ?_)
        clear hK K
        try simp only [Act.put, List.setIfInBounds_toArray, List.set_cons_zero, List.set_cons_succ]
        have hHeld := hc.ex
        have XD4 := Lib.hid hc.ex
        have C4 := Lib.hid hc
        clear hc hg hat
        refine heldL_ready (rs := [20]) (by kernel_rfl) (by simp) ?_
        refine AllL.cons rfl (fun K hK => ?_) AllL.nil
        refine step_append_ct rfl (.tmp 42) (.tmp 48) 37 rfl C4.out (by rfl) _ _ _ (by rfl) (L.drop kk) (by simp <;> omega) ?_ (NW3.out Y4 XD4.out _ (by intro h; first | rfl | simp [h])) (by simp <;> omega) ?_
        · intro hao; first | cases hao | (split at hao <;> cases hao) | (simp at hao; try omega)
        intro v3 Y5 hc hg hat
        refine hK.out _ _ (fun _ => hc.ex) (fun _ => ?_)
        clear hK K
        try simp only [Act.put, List.setIfInBounds_toArray, List.set_cons_zero, List.set_cons_succ]
        have hHeld := hc.ex
        have XD5 := Lib.hid hc.ex
        have C5 := Lib.hid hc
        clear hc hg hat
        refine heldL_take (i := 21) (v := ?_) rfl (by kernel_rfl) (by kernel_rfl) (by kernel_rfl) (by kernel_rfl) (fun _ _ _ h => h) (Or.inl ⟨by rfl, ?_⟩) (by assumption) ?_
        rotate_left
        · intro w hSw; (try dsimp only at hSw); have c0 := CX.out w hSw; go_simp; try with_reducible rfl
        try simp only [Act.put, List.setIfInBounds_toArray, List.set_cons_zero, List.set_cons_succ]
        refine heldL_take (i := 22) (v := ?_) rfl (by kernel_rfl) (by kernel_rfl) (by kernel_rfl) (by kernel_rfl) (fun _ _ _ h => h) (Or.inl ⟨by rfl, ?_⟩) (by assumption) ?_
        rotate_left
        · intro w hSw; (try dsimp only at hSw); have c0 := CX.out w hSw; go_simp; try with_reducible rfl
        try simp only [Act.put, List.setIfInBounds_toArray, List.set_cons_zero, List.set_cons_succ]
        obtain ⟨a3, n3, c3, rfl⟩ := C5.out.shape
        have s0 := (R0.out.ex XD5.out).cell
        have s1 := (R0.out.ex XD5.out).soft
        refine heldL_store_ct 51 49 (by kernel_rfl) (by kernel_rfl) (by kernel_rfl) (by rfl) (by rfl) s0 s1 ?_
        clear s0 s1
        have CE := Lib.hid (rt_store R0.out C5.out)
        obtain ⟨Z, hZ⟩ : ∃ Z, Z = Y5.setCell ⟨xb, 0, none⟩ (.slice a3 n3 c3) := ⟨_, rfl⟩
        rw [← hZ] at CE ⊢
        clear hZ
        rotate_left
        go_simp
        have hx := (XD1.out.trans (Ex.made Y1 (.cells #[.int .i64 x, .int .i64 gg] 45)))
        refine hK.out _ _ (fun _ => hx) (fun _ => ?_)
        clear hK K
        try simp only [Act.put, List.setIfInBounds_toArray, List.set_cons_zero, List.set_cons_succ]
        have hb := Box.fresh Y1 #[.int .i64 x, .int .i64 gg] 45
        have hc := C1.out.made (.cells #[.int .i64 x, .int .i64 gg] 45)
        have hne := C1.out.new
        obtain ⟨nb, hnb⟩ : ∃ b, Y1.heap.size = b := ⟨_, rfl⟩
        rw [hnb] at hb hne ⊢
        obtain ⟨Y2, hY⟩ : ∃ Y, Y = Y1.alloc (.cells #[.int .i64 x, .int .i64 gg] 45) := ⟨_, rfl⟩
        rw [← hY] at hx hb hc ⊢
        have hHeld := hx
        have XD2 := Lib.hid hx
        have B2 := Lib.hid hb
        have C2 := Lib.hid hc
        have NE2 := Lib.hid hne
        clear hc hne
        clear hY hnb hx hb
        refine heldL_ready (rs := [8]) (by kernel_rfl) (by simp) ?_
        refine AllL.cons rfl (fun K hK => ?_) AllL.nil
        refine step_append_ct rfl (.tmp 30) (.tmp 36) 37 rfl C2.out (by rfl) _ _ _ (by rfl) (L.take kk) (by simp <;> omega) ?_ (NW1.out Y2 XD2.out) (by simp <;> omega) ?_
        · intro hao; first | cases hao | (split at hao <;> cases hao) | (simp at hao; try omega)
        intro v1 Y3 hc hg hat
        refine hK.out _ _ (fun _ => hc.ex) (fun _ => ?_)
        clear hK K
        try simp only [Act.put, List.setIfInBounds_toArray, List.set_cons_zero, List.set_cons_succ]
        have hHeld := hc.ex
        have XD3 := Lib.hid hc.ex
        have C3 := Lib.hid hc
        have B3 := Lib.hid (box_far B2.out NE2.out hg)
        have NE3 := Lib.hid (own_far B2.out NE2.out hat)
        clear hc hg hat
        refine heldL_ready (rs := [13]) (by kernel_rfl) (by simp) ?_
        refine AllL.cons rfl (fun K hK => ?_) AllL.nil
        refine step_append_ct rfl (.tmp 37) (.tmp 41) 37 rfl C3.out (by rfl) _ _ _ (by rfl) ([(x, gg, s)]) (by simp <;> omega) ?_ ((fun ad had => by cases had; exact box_news2 B3.out)) (by simp <;> omega) ?_
        · intro hao; first | cases hao | (split at hao <;> cases hao) | (simp at hao; try omega)
        intro v2 Y4 hc hg hat
        refine hK.out _ _ (fun _ => hc.ex) (fun _ => ?_)
        clear hK K
        try simp only [Act.put, List.setIfInBounds_toArray, List.set_cons_zero, List.set_cons_succ]
        have hHeld := hc.ex
        have XD4 := Lib.hid hc.ex
        have C4 := Lib.hid hc
        clear hc hg hat
        refine heldL_ready (rs := [20]) (by kernel_rfl) (by simp) ?_
        refine AllL.cons rfl (fun K hK => ?_) AllL.nil
        refine step_append_ct rfl (.tmp 42) (.tmp 48) 37 rfl C4.out (by rfl) _ _ _ (by rfl) (L.drop kk) (by simp <;> omega) ?_ (NW3.out Y4 XD4.out _ (by intro h; first | rfl | simp [h])) (by simp <;> omega) ?_
        · intro hao; first | cases hao | (split at hao <;> cases hao) | (simp at hao; try omega)
        intro v3 Y5 hc hg hat
        refine hK.out _ _ (fun _ => hc.ex) (fun _ => ?_)
        clear hK K
        try simp only [Act.put, List.setIfInBounds_toArray, List.set_cons_zero, List.set_cons_succ]
        have hHeld := hc.ex
        have XD5 := Lib.hid hc.ex
        have C5 := Lib.hid hc
        clear hc hg hat
        refine heldL_take (i := 21) (v := ?_) rfl (by kernel_rfl) (by kernel_rfl) (by kernel_rfl) (by kernel_rfl) (fun _ _ _ h => h) (Or.inl ⟨by rfl, ?_⟩) (by assumption) ?_
        rotate_left
        · intro w hSw; (try dsimp only at hSw); have c0 := CX.out w hSw; go_simp; try with_reducible rfl
        try simp only [Act.put, List.setIfInBounds_toArray, List.set_cons_zero, List.set_cons_succ]
        refine heldL_take (i := 22) (v := ?_) rfl (by kernel_rfl) (by kernel_rfl) (by kernel_rfl) (by kernel_rfl) (fun _ _ _ h => h) (Or.inl ⟨by rfl, ?_⟩) (by assumption) ?_
        rotate_left
        · intro w hSw; (try dsimp only at hSw); have c0 := CX.out w hSw; go_simp; try with_reducible rfl
        try simp only [Act.put, List.setIfInBounds_toArray, List.set_cons_zero, List.set_cons_succ]
        obtain ⟨a3, n3, c3, rfl⟩ := C5.out.shape
        have s0 := (R0.out.ex XD5.out).cell
        have s1 := (R0.out.ex XD5.out).soft
        refine heldL_store_ct 51 49 (by kernel_rfl) (by kernel_rfl) (by kernel_rfl) (by rfl) (by rfl) s0 s1 ?_
        clear s0 s1
        have CE := Lib.hid (rt_store R0.out C5.out)
        obtain ⟨Z, hZ⟩ : ∃ Z, Z = Y5.setCell ⟨xb, 0, none⟩ (.slice a3 n3 c3) := ⟨_, rfl⟩
        rw [← hZ] at CE ⊢
        clear hZ
        rotate_left
        go_simp
        have hx := (XD0.out.trans (Ex.made Y0 (.cells #[.int .i64 x, .int .i64 gg] 45)))
        refine hK.out _ _ (fun _ => hx) (fun _ => ?_)
        clear hK K
        try simp only [Act.put, List.setIfInBounds_toArray, List.set_cons_zero, List.set_cons_succ]
        have hb := Box.fresh Y0 #[.int .i64 x, .int .i64 gg] 45
        obtain ⟨nb, hnb⟩ : ∃ b, Y0.heap.size = b := ⟨_, rfl⟩
        rw [hnb] at hb ⊢
        obtain ⟨Y1, hY⟩ : ∃ Y, Y = Y0.alloc (.cells #[.int .i64 x, .int .i64 gg] 45) := ⟨_, rfl⟩
        rw [← hY] at hx hb ⊢
        have hHeld := hx
        have XD1 := Lib.hid hx
        have B1 := Lib.hid hb
        clear hY hnb hx hb
        refine heldL_ready (rs := [1]) (by kernel_rfl) (by simp) ?_
        refine AllL.cons rfl (fun K hK => ?_) AllL.nil
        go_simp
        have hx := (XD1.out.trans (Ex.made Y1 (.cells #[] 45)))
        refine hK.out _ _ (fun _ => hx) (fun _ => ?_)
        clear hK K
        try simp only [Act.put, List.setIfInBounds_toArray, List.set_cons_zero, List.set_cons_succ]
        have hc := CT.lit XD1.out
        have hb := (B1.out.ex (Ex.made Y1 (.cells #[] 45)))
        have hlt := B1.out.lt
        obtain ⟨e0, he0⟩ : ∃ e0, Y1.heap.size = e0 := ⟨_, rfl⟩
        rw [he0] at hc ⊢
        rw [he0] at hlt
        obtain ⟨v0, hv0⟩ : ∃ v0, Value.slice (some ⟨e0, 0, none⟩) 0 0 = v0 := ⟨_, rfl⟩
        have hne : ∀ q, v0.ownBlock = some q → q = e0 := fun q hq => by rw [← hv0] at hq; cases hq; rfl
        rw [hv0] at hc ⊢
        obtain ⟨Y2, hY⟩ : ∃ Y, Y = Y1.alloc (.cells #[] 45) := ⟨_, rfl⟩
        rw [← hY] at hx hc hb ⊢
        have hHeld := hx
        have XD2 := Lib.hid hx
        have C2 := Lib.hid hc
        have B2 := Lib.hid hb
        have NE2 : Hid (v0.ownBlock ≠ some nb) := Lib.hid (fun e => by have := hne nb e; omega)
        clear hb hlt
        clear hY hx hc hv0 hne he0
        refine heldL_ready (rs := [8]) (by kernel_rfl) (by simp) ?_
        refine AllL.cons rfl (fun K hK => ?_) AllL.nil
        refine step_append_ct rfl (.tmp 30) (.tmp 36) 37 rfl C2.out (by rfl) _ _ _ (by rfl) (L.take kk) (by simp <;> omega) ?_ (NW1.out Y2 XD2.out) (by simp <;> omega) ?_
        · intro hao; first | cases hao | (split at hao <;> cases hao) | (simp at hao; try omega)
        intro v1 Y3 hc hg hat
        refine hK.out _ _ (fun _ => hc.ex) (fun _ => ?_)
        clear hK K
        try simp only [Act.put, List.setIfInBounds_toArray, List.set_cons_zero, List.set_cons_succ]
        have hHeld := hc.ex
        have XD3 := Lib.hid hc.ex
        have C3 := Lib.hid hc
        have B3 := Lib.hid (box_far B2.out NE2.out hg)
        have NE3 := Lib.hid (own_far B2.out NE2.out hat)
        clear hc hg hat
        refine heldL_ready (rs := [13]) (by kernel_rfl) (by simp) ?_
        refine AllL.cons rfl (fun K hK => ?_) AllL.nil
        refine step_append_ct rfl (.tmp 37) (.tmp 41) 37 rfl C3.out (by rfl) _ _ _ (by rfl) ([(x, gg, s)]) (by simp <;> omega) ?_ ((fun ad had => by cases had; exact box_news2 B3.out)) (by simp <;> omega) ?_
        · intro hao; first | cases hao | (split at hao <;> cases hao) | (simp at hao; try omega)
        intro v2 Y4 hc hg hat
        refine hK.out _ _ (fun _ => hc.ex) (fun _ => ?_)
        clear hK K
        try simp only [Act.put, List.setIfInBounds_toArray, List.set_cons_zero, List.set_cons_succ]
        have hHeld := hc.ex
        have XD4 := Lib.hid hc.ex
        have C4 := Lib.hid hc
        clear hc hg hat
        refine heldL_ready (rs := [20]) (by kernel_rfl) (by simp) ?_
        refine AllL.cons rfl (fun K hK => ?_) AllL.nil
        refine step_append_ct rfl (.tmp 42) (.tmp 48) 37 rfl C4.out (by rfl) _ _ _ (by rfl) (L.drop kk) (by simp <;> omega) ?_ (NW3.out Y4 XD4.out _ (by intro h; first | rfl | simp [h])) (by simp <;> omega) ?_
        · intro hao; first | cases hao | (split at hao <;> cases hao) | (simp at hao; try omega)
        intro v3 Y5 hc hg hat
        refine hK.out _ _ (fun _ => hc.ex) (fun _ => ?_)
        clear hK K
        try simp only [Act.put, List.setIfInBounds_toArray, List.set_cons_zero, List.set_cons_succ]
        have hHeld := hc.ex
        have XD5 := Lib.hid hc.ex
        have C5 := Lib.hid hc
        clear hc hg hat
        refine heldL_take (i := 21) (v := ?_) rfl (by kernel_rfl) (by kernel_rfl) (by kernel_rfl) (by kernel_rfl) (fun _ _ _ h => h) (Or.inl ⟨by rfl, ?_⟩) (by assumption) ?_
        rotate_left
        · intro w hSw; (try dsimp only at hSw); have c0 := CX.out w hSw; go_simp; try with_reducible rfl
        try simp only [Act.put, List.setIfInBounds_toArray, List.set_cons_zero, List.set_cons_succ]
        refine heldL_take (i := 22) (v := ?_) rfl (by kernel_rfl) (by kernel_rfl) (by kernel_rfl) (by kernel_rfl) (fun _ _ _ h => h) (Or.inl ⟨by rfl, ?_⟩) (by assumption) ?_
        rotate_left
        · intro w hSw; (try dsimp only at hSw); have c0 := CX.out w hSw; go_simp; try with_reducible rfl
        try simp only [Act.put, List.setIfInBounds_toArray, List.set_cons_zero, List.set_cons_succ]
        obtain ⟨a3, n3, c3, rfl⟩ := C5.out.shape
        have s0 := (R0.out.ex XD5.out).cell
        have s1 := (R0.out.ex XD5.out).soft
        refine heldL_store_ct 51 49 (by kernel_rfl) (by kernel_rfl) (by kernel_rfl) (by rfl) (by rfl) s0 s1 ?_
        clear s0 s1
        have CE := Lib.hid (rt_store R0.out C5.out)
        obtain ⟨Z, hZ⟩ : ∃ Z, Z = Y5.setCell ⟨xb, 0, none⟩ (.slice a3 n3 c3) := ⟨_, rfl⟩
        rw [← hZ] at CE ⊢
        clear hZ
        rotate_left
        all_goals
          clear CX NW1 NW3
          go_wp2_with fail
          all_goals exact Go.Great.bodyPost_end0 rfl rfl ⟨rfl, ⟨_, addR_is x gg s HKI.out ▸ CE.out.1, fun g hg => .inr (Nat.le_trans HXX.out.size (CE.out.2.2 g hg))⟩, (HXX.out.chg _).trans CE.out.2.1 (fun _ _ h => h)⟩

end Go.Proofs.Ytofdlbnlfeocoaa
