/- The document's Most. -/
import Derived.Test.YthhgpoihkmokcaaDoorOrder31
import Derived.Deep.RegionHeld3
import Derived.Laws.CopyOwn
namespace Go.Proofs.YthhgpoihkmokcaaDoor
open Go.RowKit Ieee
set_option linter.unusedVariables false
set_option linter.unusedSimpArgs false

theorem ex_drw (w : World) : Ex w w.drew := Ex.drawn w 1

/-- A row of the region's own, in a later world. -/
structure CH (Y0 Y : World) (v : Value) (xs : List Value) : Prop where
  ex : Ex Y0 Y
  row : Y.ownsRow Y0.heap.size 23 1 v xs.length xs
theorem CH.base {Y0 Y : World} {v : Value} {xs : List Value} (h : CH Y0 Y v xs) (q : Nat) (hq : v.ownBlock = some q) : Y0.heap.size ≤ q ∧ q < Y.heap.size := by
  rcases row_shape h.row with ⟨h1, -, -⟩ | ⟨g, cap, h1, h2, h3, -⟩
  · subst h1; cases hq
  · subst h1; cases hq; exact ⟨h2, h3⟩
theorem CH.lit {Y0 Y : World} (h : Ex Y0 Y) : CH Y0 (Y.alloc (.cells #[] 23)) (.slice (some ⟨Y.heap.size, 0, none⟩) 0 0) [] :=
  ⟨h.trans (Ex.made Y _), rfl, .inr ⟨Y.heap.size, 0, #[], rfl, h.size, heap_alloc_new Y _, Nat.le_refl _, by unfold maxLen; omega, rfl, rfl⟩⟩
theorem CH.made {Y0 Y : World} {v : Value} {xs : List Value} (h : CH Y0 Y v xs) (o : Obj) : CH Y0 (Y.alloc o) v xs := ⟨h.ex.trans (Ex.made Y o), World.ownsRow.alloc h.row o⟩
theorem CH.new {Y0 Y : World} {v : Value} {xs : List Value} (h : CH Y0 Y v xs) : v.ownBlock ≠ some Y.heap.size := fun e => by have := (h.base _ e).2; omega
theorem CH.grow {Y0 Y Y' : World} {v v' : Value} {xs ys : List Value} (h : CH Y0 Y v xs) (hr : Y'.ownsRow Y0.heap.size 23 1 v' ys.length ys) (hg : Y.grownBy Y' v.ownBlock) : CH Y0 Y' v' ys :=
  ⟨Below.grown h.ex hg h.ex.size (fun k hk => (h.base k hk).1), hr⟩
theorem box_far {Y Y' : World} {v : Value} {nb : Nat} {cs : Array Value} {t : TypeId} (h : Box Y nb cs t) (hne : v.ownBlock ≠ some nb) (hg : Y.grownBy Y' v.ownBlock) : Box Y' nb cs t :=
  (hg.block nb h.lt (fun e => hne e.symm)).trans h
theorem own_far {Y : World} {v v' : Value} {nb : Nat} {cs : Array Value} {t : TypeId} (h : Box Y nb cs t) (hne : v.ownBlock ≠ some nb) (hat : v'.ownBlock = v.ownBlock ∨ v'.ownBlock = some Y.heap.size) : v'.ownBlock ≠ some nb := by
  rcases hat with e | e
  · rw [e]; exact hne
  · rw [e]; intro h'; have := h.lt; cases h'; omega
theorem box_news {Y : World} {nb x : Nat} (h : Box Y nb #[.float .f64 x] 23) : ∀ (j : Nat) (u : Value), [Value.float .f64 x][j]? = some u → Y.cell? ((⟨nb, 0, none⟩ : Addr).add j) = some u := by
  intro j u hj
  rw [show (⟨nb, 0, none⟩ : Addr).add j = ⟨nb, j, none⟩ by simp [Addr.add]; exact fun h => h.symm, h.cell j]
  simpa using hj

theorem cells_one (l : List Nat) : ∀ u ∈ cellsF l, u.oneCell' = true := by
  intro u hu
  unfold cellsF at hu
  obtain ⟨x, -, rfl⟩ := List.mem_map.1 hu
  rfl

/-- append of any number of floats at a step of a region that draws. -/
theorem step_append_ch {ops : Array Oper} {o : Oper} {a : Act} {K : Act → World → Prop} {Q : Exit → Act → World → Prop} {E : Prop} {Y0 Y : World} {v : Value} {xs : List Value} (hgd : o.guard = none) (s x : Operand) (t : TypeId)
    (ho : o.op = .call { callee := .builtin .append, args := #[s, x], argTypes := #[t, t] }) (h : CH Y0 Y v xs) (hs : a.eval s = v) (ao : Option Addr) (m c : Nat) (hx : a.eval x = .slice ao m c) (news : List Value) (hl : news.length = m)
    (hnone : ao = none → m = 0 ∧ c = 0) (hc : ∀ ad, ao = some ad → ∀ j u, news[j]? = some u → Y.cell? (ad.add j) = some u) (h1 : ∀ u ∈ news, u.oneCell' = true) (hb : xs.length + m ≤ 1000)
    (k : ∀ v' Y', CH Y0 Y' v' (xs ++ news) → Y.grownBy Y' v.ownBlock → (v'.ownBlock = v.ownBlock ∨ v'.ownBlock = some Y.heap.size) → K (a.put o.dst v') Y') (ht : Tryd.prog.underlying t = some (.slice 23) := by kernel_rfl) :
    if Region.wanted o (yielded ops a.tmps) = true then Oper.wp Tryd.prog o a Y K Q else E := by
  have hw : Region.wanted o (yielded ops a.tmps) = true := by simp [Region.wanted, hgd]
  rw [if_pos hw]
  obtain ⟨i0, hi, hz0, hz1, hz2⟩ := info_parts info_flt
  subst hl
  have key : ∃ v' Y', (Builtin.append_ #[t, t] o.type #[v, .slice ao news.length c]).run Tryd.prog Y = .ok v' Y' ∧ CH Y0 Y' v' (xs ++ news) ∧ Y.grownBy Y' v.ownBlock ∧ (v'.ownBlock = v.ownBlock ∨ v'.ownBlock = some Y.heap.size) := by
    cases ao with
    | some ad =>
      obtain ⟨v', w', hr, h2, h3, h4, h5⟩ := run_append_own_at (P := Tryd.prog) Y Y0.heap.size t o.type 23 i0 (.float .f64 0) 1 8 ht hi hz0 hz1 hz2 rfl (by decide) v xs.length xs h.row ad news.length c news (by omega) (hc ad rfl) h1 (by unfold maxLen; omega) (by omega) h.ex.size
      refine ⟨v', w', hr, h.grow ?_ h3, h3, h5⟩
      rw [List.length_append]
      exact h2
    | none =>
      obtain ⟨hm, rfl⟩ := hnone rfl
      have hn : news = [] := List.eq_nil_of_length_eq_zero hm
      subst hn
      refine ⟨v, Y, ?_, by rw [List.append_nil]; exact h, ⟨rfl, rfl, rfl, Nat.le_refl _, fun _ _ _ => rfl⟩, .inl rfl⟩
      rcases row_shape h.row with ⟨rfl, h2, h3⟩ | ⟨g, cap, rfl, -⟩
      · simp [Builtin.append_, run_underlying ht, sizeOf, typeInfo, hi, Builtin.lenOf, Builtin.firstCells, loadCells, loadCellsFrom]
      · exact run_append_owned_none (P := Tryd.prog) Y Y0.heap.size t o.type 23 i0 1 ht hi _ _ _ h.row
  obtain ⟨v', Y', hr, h2, h3, h4⟩ := key
  unfold Oper.wp execOp
  simp only [ho, resolve, invoke, builtin, Sem.run_bind, Sem.run_pure, Result.andThen_ok, List.map_toArray, List.map_cons, List.map_nil, hs, hx, hr]
  exact k v' Y' h2 h3 h4

/-- The cells from k on of a row that can be read. -/
theorem news_part {W w : World} {g : Nat} {o : List Nat} (hc : ∀ i, i < o.length → W.cell? ⟨g, i, none⟩ = some (.float .f64 (o.getD i 0))) (hg : g < W.heap.size) (x : Ex W w) (k : Nat) (l : List Nat) (hl : ∀ j, j < l.length → k + j < o.length ∧ l.getD j 0 = o.getD (k + j) 0) (ad : Addr) (had : 0 < l.length → ad = ⟨g, k, none⟩) :
    ∀ (j : Nat) (u : Value), (cellsF l)[j]? = some u → w.cell? (ad.add j) = some u := by
  intro j u hj
  have hlt : j < l.length := by
    have := (List.getElem?_eq_some_iff.1 hj).1
    rwa [cellsF_length] at this
  obtain ⟨h1, h2⟩ := hl j hlt
  rw [had (by omega), Addr.add_lit, (x.cell (p := ⟨g, k + j, none⟩) hg), hc _ h1, ← h2]
  rw [cellsF_at l j hlt] at hj
  simpa [hlt] using hj

theorem news_take {W : World} {g : Nat} {o : List Nat} (hc : ∀ j, j < o.length → W.cell? ⟨g, j, none⟩ = some (.float .f64 (o.getD j 0))) (K : Nat) :
    ∀ ad, some (⟨g, 0, none⟩ : Addr) = some ad → ∀ (j : Nat) (u : Value), (cellsF (o.take K))[j]? = some u → W.cell? (ad.add j) = some u := by
  intro ad had j u hj
  cases had
  have hlt : j < (o.take K).length := by
    have := (List.getElem?_eq_some_iff.1 hj).1
    rwa [cellsF_length] at this
  rw [cellsF_at _ j hlt] at hj
  rw [List.length_take] at hlt
  rw [Addr.add_lit, Nat.zero_add, hc j (by omega)]
  rw [← hj]
  simp [show j < o.length by omega]
theorem news_drop {W : World} {g : Nat} {o : List Nat} (hc : ∀ j, j < o.length → W.cell? ⟨g, j, none⟩ = some (.float .f64 (o.getD j 0))) (K vc : Nat) (hv : o.length ≤ vc) :
    ∀ ao, (¬ vc = K → ao = some (⟨g, K, none⟩ : Addr)) → ∀ ad, ao = some ad → ∀ (j : Nat) (u : Value), (cellsF (o.drop K))[j]? = some u → W.cell? (ad.add j) = some u := by
  intro ao hao ad had j u hj
  have hlt : j < (o.drop K).length := by
    have := (List.getElem?_eq_some_iff.1 hj).1
    rwa [cellsF_length] at this
  rw [cellsF_at _ j hlt] at hj
  rw [List.length_drop] at hlt
  rw [hao (by omega)] at had
  cases had
  rw [Addr.add_lit, hc (K + j) (by omega)]
  rw [← hj]
  simp [show K + j < o.length by omega]
theorem row_ins {Y0 Y : World} {v : Value} {o : List Nat} {x K : Nat} {l : List Nat} {i B : Nat} {xs : List Value} (h : CH Y0 Y v xs) (hK : cutK o x o.length = K) (hS : refL l (i + 1) = insL o x) (hB : B ≤ Y0.heap.size) (hxs : xs = [] ++ cellsF (o.take K) ++ [.float .f64 x] ++ cellsF (o.drop K) := by rfl) : RowF Y B v (refL l (i + 1)) := by
  subst hxs
  have e : [] ++ cellsF (o.take K) ++ [Value.float .f64 x] ++ cellsF (o.drop K) = cellsF (insL o x) := by
    unfold insL
    rw [hK]
    simp [cellsF]
  have hr := h.row
  rw [e, cellsF_length] at hr
  rw [hS]
  exact ownsRow_base hr hB

set_option maxRecDepth 20000 in
set_option maxHeartbeats 12800000 in
theorem rmost_any {w : World} {a : Option Addr} {n : Nat} {l : List Nat} (cap : Nat) (h : Fs w a n l) (hn : n ≤ 200) (k : Int) (N : Nat) (hN : (min k n).toNat = N) :
    Calls Tryd.prog 23 #[.slice a n cap, .int .i64 k] w fun e w' => ∃ v c, e = .returned (.slice v N c) ∧ Fs w' v N ((refL l n).take N) ∧ Ex w w' := by
  have H := Lib.hid h
  have HL : Hid (l.length = n) := Lib.hid h.1
  have HN := Lib.hid hN
  clear h hN
  go_enter Tryd.func23, Tryd.ntmps23
  go_wp2_with fail
  go_loopw [5, 6] (fun ov iv wr => ∃ i : Nat, i ≤ n ∧ iv = .int .i64 i ∧ RowF wr w.heap.size ov (refL l i) ∧ Ex w wr) (fun _ iv _ => n - (intOf iv).toNat)
  case atStart => exact ⟨0, by omega, rfl, World.ownsRow_nil _ _ _ _, Ex.refl w⟩
  case round =>
    obtain ⟨i, hi, rfl, hr, hx⟩ := hrel
    have HX := Lib.hid hx
    have HR := Lib.hid hr
    have hn' : (n : Int) ≤ 200 := by omega
    have hol : (refL l i).length = i := by
      rw [(refL_laws l i (by rw [HL.out]; exact hi)).2.length_eq, List.length_take, HL.out]; omega
    clear hr hx
    by_cases hlt : i < n
    · have q1 : (i : Int) < (n : Int) := by omega
      obtain ⟨x, hxx⟩ : ∃ x, l.getD i 0 = x := ⟨_, rfl⟩
      have HS := Lib.hid (refL_succ (l := l) (i := i) (by rw [HL.out]; exact hlt))
      rw [hxx] at HS
      obtain ⟨b2, off2, rfl, hb2, hc2⟩ := (H.out.ex HX.out).2.resolve_left (by omega)
      have c0 : wr.cell? ⟨b2, off2 + i, none⟩ = some (.float .f64 x) := hxx ▸ hc2 i hlt
      have C0 := Lib.hid c0
      obtain ⟨o, ho⟩ : ∃ o, refL l i = o := ⟨_, rfl⟩
      rw [ho] at HR HS hol
      obtain ⟨va, vc, rfl, hF⟩ := HR.out.fs
      have HF := Lib.hid hF
      have hcut := cutK_le o x o.length
      have HI : Hid (i < n) := Lib.hid hlt
      have q2 : (o.length : Int) ≤ 200 := by omega
      have HSH : Hid ((va = none ∧ vc = 0 ∧ o.length = 0) ∨ ∃ g, va = some ⟨g, 0, none⟩ ∧ o.length ≤ vc) := Lib.hid (by
        rcases row_shape HR.out with ⟨h1, h2, -⟩ | ⟨g, cap', h1, -, -, h4, -⟩
        · simp only [Value.slice.injEq] at h1; exact .inl ⟨h1.1, h1.2.2, h1.2.1⟩
        · simp only [Value.slice.injEq] at h1; exact .inr ⟨g, h1.1, by omega⟩)
      have HCL : Hid (∀ g, va = some ⟨g, 0, none⟩ → ∀ W, Ex wr W → g < W.heap.size ∧ ∀ j, j < o.length → W.cell? ⟨g, j, none⟩ = some (.float .f64 (o.getD j 0))) := Lib.hid (fun g hg W hW => by
        have hr := HR.out
        rw [hg] at hr
        have hlt : g < wr.heap.size := by
          rcases row_shape hr with ⟨h1, -⟩ | ⟨g', cap', h1, -, h3, -⟩
          · simp at h1
          · simp only [Value.slice.injEq, Option.some.injEq, Addr.mk.injEq, and_true] at h1
            rw [h1.1]; exact h3
        refine ⟨Nat.lt_of_lt_of_le hlt hW.size, fun j hj => ?_⟩
        rw [(hW.cell (p := ⟨g, j, none⟩) hlt), hr.cell j _ (cellsF_at o j hj)]
        simp [hj])
      have HCX : Hid (∀ W, Ex wr W → W.cell? ⟨b2, off2 + i, none⟩ = some (.float .f64 x)) := Lib.hid (fun W hW => cell_later hW c0)
      clear hxx hc2 hb2 ho hF c0 hcut
      go_wp2_with fail
      go_loopw [7] (fun jv ws => ∃ j : Nat, j ≤ o.length ∧ jv = .int .i64 j ∧ cutK o x j = cutK o x o.length ∧ Ex wr ws) (fun jv _ => (intOf jv).toNat)
      case atStart => exact ⟨o.length, Nat.le_refl _, by rw [hol], rfl, Ex.refl _⟩
      case round =>
        obtain ⟨j, hj, rfl, hcut, hx⟩ := hrel
        have HW := Lib.hid hx
        have HC := Lib.hid hcut
        clear hx hcut
        cases j with
        | zero =>
          rw [show ((0 : Nat) : Int) = 0 from rfl]
          go_upto_region 6 with fail
          refine wp_region_ex (by kernel_rfl) (by kernel_rfl) ?_
          repeat (go_big_quiet_step (fail))
          refine wpQuiet_nil ?_
          rintro w4 ⟨wz, rfl⟩
          have hex : Ex wr wz.w := wz.2
          obtain ⟨wx, hwx⟩ : ∃ V, wz.w = V := ⟨_, rfl⟩
          rw [hwx] at hex ⊢
          have HY := Lib.hid (HW.out.trans hex)
          have HK : Hid (cutK o x o.length = 0) := Lib.hid HC.out.symm
          clear hex hwx
          go_upto_region 8 with fail
          have CX := Lib.hid (fun W (hW : Ex wx.drew W) => HCX.out W (HY.out.trans ((ex_drw wx).trans hW)))
          have HXX := Lib.hid (HX.out.trans (HY.out.trans (ex_drw wx)))
          have HSZ : Hid (o.length ≤ 200) := Lib.hid (by omega)
          have HKL : Hid (0 ≤ o.length) := Lib.hid (Nat.zero_le _)
          have HKI : Hid (cutK o x o.length = 0) := HK
          rcases HSH.out with ⟨rfl, rfl, ho0⟩ | ⟨g, rfl, hvc⟩
          · obtain rfl : o = [] := List.eq_nil_of_length_eq_zero ho0
            clear HCL HSH
            have hi0 : i = 0 := by simpa using hol.symm
            subst hi0
            clear hol
            change Hid (∀ W, Ex wx.drew W → W.cell? ⟨b2, off2, none⟩ = some (.float .f64 x)) at CX
            rw [show ([] : List Nat).length = 0 from rfl]
            refine wp_region_held_drew (S := fun w' => Ex wx.drew w') (by kernel_rfl) (Ex.refl _) (fun hHeld => ?_)
            have XD0 := Lib.hid (Ex.refl wx.drew)
            generalize wx.drew = Y0 at *
            refine wpAnyH_take (i := 1) (v := ?_) rfl (by kernel_rfl) (by kernel_rfl) (by kernel_rfl) (fun _ _ _ h => h) (Or.inl ⟨by rfl, ?_⟩) (by assumption) ?_
            rotate_left
            · intro w hSw; (try dsimp only at hSw); have c0 := CX.out w hSw; go_simp; try with_reducible rfl
            try simp only [Act.put, List.setIfInBounds_toArray, List.set_cons_zero, List.set_cons_succ]
            refine wpAnyH_take (i := 2) (v := ?_) rfl (by kernel_rfl) (by kernel_rfl) (by kernel_rfl) (fun _ _ _ h => h) (Or.inl ⟨by rfl, ?_⟩) (by assumption) ?_
            rotate_left
            · intro w hSw; (try dsimp only at hSw); have c0 := CX.out w hSw; go_simp; try with_reducible rfl
            try simp only [Act.put, List.setIfInBounds_toArray, List.set_cons_zero, List.set_cons_succ]
            refine wpAnyH_take (i := 3) (v := ?_) rfl (by kernel_rfl) (by kernel_rfl) (by kernel_rfl) (fun _ _ _ h => h) (Or.inl ⟨by rfl, ?_⟩) (by assumption) ?_
            rotate_left
            · intro w hSw; (try dsimp only at hSw); have c0 := CX.out w hSw; go_simp; try with_reducible rfl
            try simp only [Act.put, List.setIfInBounds_toArray, List.set_cons_zero, List.set_cons_succ]
            refine wpAnyH_take (i := 5) (v := ?_) rfl (by kernel_rfl) (by kernel_rfl) (by kernel_rfl) (fun _ _ _ h => h) (Or.inl ⟨by rfl, ?_⟩) (by assumption) ?_
            rotate_left
            · intro w hSw; (try dsimp only at hSw); have c0 := CX.out w hSw; go_simp; try with_reducible rfl
            try simp only [Act.put, List.setIfInBounds_toArray, List.set_cons_zero, List.set_cons_succ]
            refine wpAnyH_take (i := 6) (v := ?_) rfl (by kernel_rfl) (by kernel_rfl) (by kernel_rfl) (fun _ _ _ h => h) (Or.inl ⟨by rfl, ?_⟩) (by assumption) ?_
            rotate_left
            · intro w hSw; (try dsimp only at hSw); have c0 := CX.out w hSw; go_simp; try with_reducible rfl
            try simp only [Act.put, List.setIfInBounds_toArray, List.set_cons_zero, List.set_cons_succ]
            refine wpAnyH_take (i := 7) (v := ?_) rfl (by kernel_rfl) (by kernel_rfl) (by kernel_rfl) (fun _ _ _ h => h) (Or.inl ⟨by rfl, ?_⟩) (by assumption) ?_
            rotate_left
            · intro w hSw; (try dsimp only at hSw); have c0 := CX.out w hSw; go_simp; try with_reducible rfl
            try simp only [Act.put, List.setIfInBounds_toArray, List.set_cons_zero, List.set_cons_succ]
            refine wpAnyH_take (i := 8) (v := ?_) rfl (by kernel_rfl) (by kernel_rfl) (by kernel_rfl) (fun _ _ _ h => h) (Or.inl ⟨by rfl, ?_⟩) (by assumption) ?_
            rotate_left
            · intro w hSw; (try dsimp only at hSw); have c0 := CX.out w hSw; go_simp; try with_reducible rfl
            try simp only [Act.put, List.setIfInBounds_toArray, List.set_cons_zero, List.set_cons_succ]
            refine wpAnyH_take (i := 11) (v := ?_) rfl (by kernel_rfl) (by kernel_rfl) (by kernel_rfl) (fun _ _ _ h => h) (Or.inl ⟨by rfl, ?_⟩) (by assumption) ?_
            rotate_left
            · intro w hSw; (try dsimp only at hSw); have c0 := CX.out w hSw; go_simp; try with_reducible rfl
            try simp only [Act.put, List.setIfInBounds_toArray, List.set_cons_zero, List.set_cons_succ]
            refine wpAnyH_take (i := 12) (v := ?_) rfl (by kernel_rfl) (by kernel_rfl) (by kernel_rfl) (fun _ _ _ h => h) (Or.inl ⟨by rfl, ?_⟩) (by assumption) ?_
            rotate_left
            · intro w hSw; (try dsimp only at hSw); have c0 := CX.out w hSw; go_simp; try with_reducible rfl
            try simp only [Act.put, List.setIfInBounds_toArray, List.set_cons_zero, List.set_cons_succ]
            refine wpAnyH_take (i := 13) (v := ?_) rfl (by kernel_rfl) (by kernel_rfl) (by kernel_rfl) (fun _ _ _ h => h) (Or.inl ⟨by rfl, ?_⟩) (by assumption) ?_
            rotate_left
            · intro w hSw; (try dsimp only at hSw); have c0 := CX.out w hSw; go_simp; try with_reducible rfl
            try simp only [Act.put, List.setIfInBounds_toArray, List.set_cons_zero, List.set_cons_succ]
            refine wpAnyH_ready (rs := [0, 9]) (by kernel_rfl) (by simp) ?_
            refine AllReadyH.cons rfl (fun K hK => ?_) (AllReadyH.cons rfl (fun K hK => ?_) AllReadyH.nil)
            go_simp
            have hx := (XD0.out.trans (Ex.made Y0 (.cells #[] 23)))
            refine hK.out _ _ hx (fun hHeld => ?_)
            clear hK K
            try simp only [Act.put, List.setIfInBounds_toArray, List.set_cons_zero, List.set_cons_succ]
            have hc := CH.lit XD0.out
            obtain ⟨e0, he0⟩ : ∃ e0, Y0.heap.size = e0 := ⟨_, rfl⟩
            rw [he0] at hc ⊢
            obtain ⟨v0, hv0⟩ : ∃ v0, Value.slice (some ⟨e0, 0, none⟩) 0 0 = v0 := ⟨_, rfl⟩
            have hne : ∀ q, v0.ownBlock = some q → q = e0 := fun q hq => by rw [← hv0] at hq; cases hq; rfl
            rw [hv0] at hc ⊢
            obtain ⟨Y1, hY⟩ : ∃ Y, Y = Y0.alloc (.cells #[] 23) := ⟨_, rfl⟩
            rw [← hY] at hx hc hHeld ⊢
            have XD1 := Lib.hid hx
            have C1 := Lib.hid hc
            clear hY hx hc hv0 hne he0
            refine wpAnyH_ready (rs := [4, 9]) (by kernel_rfl) (by simp) ?_
            refine AllReadyH.cons rfl (fun K hK => ?_) (AllReadyH.cons rfl (fun K hK => ?_) AllReadyH.nil)
            refine step_append_ch rfl (.tmp 32) (.tmp 35) 22 rfl C1.out (by rfl) _ _ _ (by rfl) (cellsF (([] : List Nat).take 0)) (by simp [cellsF] <;> omega) ?_ ((fun ad had => by cases had)) (by first | exact cells_one _ | simp [Value.oneCell']) (by simp [cellsF] <;> omega) ?_
            · intro hao; exact ⟨rfl, rfl⟩
            intro v1 Y2 hc hg hat
            refine hK.out _ _ hc.ex (fun hHeld => ?_)
            clear hK K
            try simp only [Act.put, List.setIfInBounds_toArray, List.set_cons_zero, List.set_cons_succ]
            have XD2 := Lib.hid hc.ex
            have C2 := Lib.hid hc
            clear hc hg hat
            refine wpAnyH_ready (rs := [9]) (by kernel_rfl) (by simp) ?_
            refine AllReadyH.cons rfl (fun K hK => ?_) AllReadyH.nil
            go_simp
            have hx := (XD2.out.trans (Ex.made Y2 (.cells #[.float .f64 x] 23)))
            refine hK.out _ _ hx (fun hHeld => ?_)
            clear hK K
            try simp only [Act.put, List.setIfInBounds_toArray, List.set_cons_zero, List.set_cons_succ]
            have hb := Box.fresh Y2 #[.float .f64 x] 23
            have hc := C2.out.made (.cells #[.float .f64 x] 23)
            have hne := C2.out.new
            obtain ⟨nb, hnb⟩ : ∃ b, Y2.heap.size = b := ⟨_, rfl⟩
            rw [hnb] at hb hne ⊢
            obtain ⟨Y3, hY⟩ : ∃ Y, Y = Y2.alloc (.cells #[.float .f64 x] 23) := ⟨_, rfl⟩
            rw [← hY] at hx hb hHeld hc ⊢
            have XD3 := Lib.hid hx
            have B3 := Lib.hid hb
            have C3 := Lib.hid hc
            have NE3 := Lib.hid hne
            clear hc hne
            clear hY hnb hx hb
            refine wpAnyH_ready (rs := [10]) (by kernel_rfl) (by simp) ?_
            refine AllReadyH.cons rfl (fun K hK => ?_) AllReadyH.nil
            refine step_append_ch rfl (.tmp 36) (.tmp 41) 22 rfl C3.out (by rfl) _ _ _ (by rfl) ([.float .f64 x]) (by simp [cellsF] <;> omega) ?_ ((fun ad had => by cases had; exact box_news B3.out)) (by first | exact cells_one _ | simp [Value.oneCell']) (by simp [cellsF] <;> omega) ?_
            · intro hao; first | cases hao | (split at hao <;> cases hao) | (simp at hao; try omega)
            intro v2 Y4 hc hg hat
            refine hK.out _ _ hc.ex (fun hHeld => ?_)
            clear hK K
            try simp only [Act.put, List.setIfInBounds_toArray, List.set_cons_zero, List.set_cons_succ]
            have XD4 := Lib.hid hc.ex
            have C4 := Lib.hid hc
            clear hc hg hat
            refine wpAnyH_ready (rs := [14]) (by kernel_rfl) (by simp) ?_
            refine AllReadyH.cons rfl (fun K hK => ?_) AllReadyH.nil
            refine step_append_ch rfl (.tmp 42) (.tmp 45) 22 rfl C4.out (by rfl) _ _ _ (by rfl) (cellsF (([] : List Nat).drop 0)) (by simp [cellsF] <;> omega) ?_ ((fun ad had => by cases had)) (by first | exact cells_one _ | simp [Value.oneCell']) (by simp [cellsF] <;> omega) ?_
            · intro hao; exact ⟨rfl, rfl⟩
            intro v3 Y5 hc hg hat
            refine hK.out _ _ hc.ex (fun hHeld => ?_)
            clear hK K
            try simp only [Act.put, List.setIfInBounds_toArray, List.set_cons_zero, List.set_cons_succ]
            have XD5 := Lib.hid hc.ex
            have C5 := Lib.hid hc
            clear hc hg hat
            refine wpAnyH_ready (rs := [15]) (by kernel_rfl) (by simp) ?_
            refine AllReadyH.cons rfl (fun K hK => ?_) AllReadyH.nil
            go_simp
            refine hK.out _ _ XD5.out (fun hHeld => ?_)
            clear hK K
            try simp only [Act.put, List.setIfInBounds_toArray, List.set_cons_zero, List.set_cons_succ]
            refine wpAnyH_done (by kernel_rfl) ?_ _
            have CE := Lib.hid C5.out
            rotate_left
            go_simp
            have hx := (XD1.out.trans (Ex.made Y1 (.cells #[.float .f64 x] 23)))
            refine hK.out _ _ hx (fun hHeld => ?_)
            clear hK K
            try simp only [Act.put, List.setIfInBounds_toArray, List.set_cons_zero, List.set_cons_succ]
            have hb := Box.fresh Y1 #[.float .f64 x] 23
            have hc := C1.out.made (.cells #[.float .f64 x] 23)
            have hne := C1.out.new
            obtain ⟨nb, hnb⟩ : ∃ b, Y1.heap.size = b := ⟨_, rfl⟩
            rw [hnb] at hb hne ⊢
            obtain ⟨Y2, hY⟩ : ∃ Y, Y = Y1.alloc (.cells #[.float .f64 x] 23) := ⟨_, rfl⟩
            rw [← hY] at hx hb hHeld hc ⊢
            have XD2 := Lib.hid hx
            have B2 := Lib.hid hb
            have C2 := Lib.hid hc
            have NE2 := Lib.hid hne
            clear hc hne
            clear hY hnb hx hb
            refine wpAnyH_ready (rs := [4]) (by kernel_rfl) (by simp) ?_
            refine AllReadyH.cons rfl (fun K hK => ?_) AllReadyH.nil
            refine step_append_ch rfl (.tmp 32) (.tmp 35) 22 rfl C2.out (by rfl) _ _ _ (by rfl) (cellsF (([] : List Nat).take 0)) (by simp [cellsF] <;> omega) ?_ ((fun ad had => by cases had)) (by first | exact cells_one _ | simp [Value.oneCell']) (by simp [cellsF] <;> omega) ?_
            · intro hao; exact ⟨rfl, rfl⟩
            intro v1 Y3 hc hg hat
            refine hK.out _ _ hc.ex (fun hHeld => ?_)
            clear hK K
            try simp only [Act.put, List.setIfInBounds_toArray, List.set_cons_zero, List.set_cons_succ]
            have XD3 := Lib.hid hc.ex
            have C3 := Lib.hid hc
            have B3 := Lib.hid (box_far B2.out NE2.out hg)
            have NE3 := Lib.hid (own_far B2.out NE2.out hat)
            clear hc hg hat
            refine wpAnyH_ready (rs := [10]) (by kernel_rfl) (by simp) ?_
            refine AllReadyH.cons rfl (fun K hK => ?_) AllReadyH.nil
            refine step_append_ch rfl (.tmp 36) (.tmp 41) 22 rfl C3.out (by rfl) _ _ _ (by rfl) ([.float .f64 x]) (by simp [cellsF] <;> omega) ?_ ((fun ad had => by cases had; exact box_news B3.out)) (by first | exact cells_one _ | simp [Value.oneCell']) (by simp [cellsF] <;> omega) ?_
            · intro hao; first | cases hao | (split at hao <;> cases hao) | (simp at hao; try omega)
            intro v2 Y4 hc hg hat
            refine hK.out _ _ hc.ex (fun hHeld => ?_)
            clear hK K
            try simp only [Act.put, List.setIfInBounds_toArray, List.set_cons_zero, List.set_cons_succ]
            have XD4 := Lib.hid hc.ex
            have C4 := Lib.hid hc
            clear hc hg hat
            refine wpAnyH_ready (rs := [14]) (by kernel_rfl) (by simp) ?_
            refine AllReadyH.cons rfl (fun K hK => ?_) AllReadyH.nil
            refine step_append_ch rfl (.tmp 42) (.tmp 45) 22 rfl C4.out (by rfl) _ _ _ (by rfl) (cellsF (([] : List Nat).drop 0)) (by simp [cellsF] <;> omega) ?_ ((fun ad had => by cases had)) (by first | exact cells_one _ | simp [Value.oneCell']) (by simp [cellsF] <;> omega) ?_
            · intro hao; exact ⟨rfl, rfl⟩
            intro v3 Y5 hc hg hat
            refine hK.out _ _ hc.ex (fun hHeld => ?_)
            clear hK K
            try simp only [Act.put, List.setIfInBounds_toArray, List.set_cons_zero, List.set_cons_succ]
            have XD5 := Lib.hid hc.ex
            have C5 := Lib.hid hc
            clear hc hg hat
            refine wpAnyH_ready (rs := [15]) (by kernel_rfl) (by simp) ?_
            refine AllReadyH.cons rfl (fun K hK => ?_) AllReadyH.nil
            go_simp
            refine hK.out _ _ XD5.out (fun hHeld => ?_)
            clear hK K
            try simp only [Act.put, List.setIfInBounds_toArray, List.set_cons_zero, List.set_cons_succ]
            refine wpAnyH_done (by kernel_rfl) ?_ _
            have CE := Lib.hid C5.out
            rotate_left
            go_simp
            have hx := (XD0.out.trans (Ex.made Y0 (.cells #[.float .f64 x] 23)))
            refine hK.out _ _ hx (fun hHeld => ?_)
            clear hK K
            try simp only [Act.put, List.setIfInBounds_toArray, List.set_cons_zero, List.set_cons_succ]
            have hb := Box.fresh Y0 #[.float .f64 x] 23
            obtain ⟨nb, hnb⟩ : ∃ b, Y0.heap.size = b := ⟨_, rfl⟩
            rw [hnb] at hb ⊢
            obtain ⟨Y1, hY⟩ : ∃ Y, Y = Y0.alloc (.cells #[.float .f64 x] 23) := ⟨_, rfl⟩
            rw [← hY] at hx hb hHeld ⊢
            have XD1 := Lib.hid hx
            have B1 := Lib.hid hb
            clear hY hnb hx hb
            refine wpAnyH_ready (rs := [0]) (by kernel_rfl) (by simp) ?_
            refine AllReadyH.cons rfl (fun K hK => ?_) AllReadyH.nil
            go_simp
            have hx := (XD1.out.trans (Ex.made Y1 (.cells #[] 23)))
            refine hK.out _ _ hx (fun hHeld => ?_)
            clear hK K
            try simp only [Act.put, List.setIfInBounds_toArray, List.set_cons_zero, List.set_cons_succ]
            have hc := CH.lit XD1.out
            have hb := (B1.out.ex (Ex.made Y1 (.cells #[] 23)))
            have hlt := B1.out.lt
            obtain ⟨e0, he0⟩ : ∃ e0, Y1.heap.size = e0 := ⟨_, rfl⟩
            rw [he0] at hc ⊢
            rw [he0] at hlt
            obtain ⟨v0, hv0⟩ : ∃ v0, Value.slice (some ⟨e0, 0, none⟩) 0 0 = v0 := ⟨_, rfl⟩
            have hne : ∀ q, v0.ownBlock = some q → q = e0 := fun q hq => by rw [← hv0] at hq; cases hq; rfl
            rw [hv0] at hc ⊢
            obtain ⟨Y2, hY⟩ : ∃ Y, Y = Y1.alloc (.cells #[] 23) := ⟨_, rfl⟩
            rw [← hY] at hx hc hb hHeld ⊢
            have XD2 := Lib.hid hx
            have C2 := Lib.hid hc
            have B2 := Lib.hid hb
            have NE2 : Hid (v0.ownBlock ≠ some nb) := Lib.hid (fun e => by have := hne nb e; omega)
            clear hb hlt
            clear hY hx hc hv0 hne he0
            refine wpAnyH_ready (rs := [4]) (by kernel_rfl) (by simp) ?_
            refine AllReadyH.cons rfl (fun K hK => ?_) AllReadyH.nil
            refine step_append_ch rfl (.tmp 32) (.tmp 35) 22 rfl C2.out (by rfl) _ _ _ (by rfl) (cellsF (([] : List Nat).take 0)) (by simp [cellsF] <;> omega) ?_ ((fun ad had => by cases had)) (by first | exact cells_one _ | simp [Value.oneCell']) (by simp [cellsF] <;> omega) ?_
            · intro hao; exact ⟨rfl, rfl⟩
            intro v1 Y3 hc hg hat
            refine hK.out _ _ hc.ex (fun hHeld => ?_)
            clear hK K
            try simp only [Act.put, List.setIfInBounds_toArray, List.set_cons_zero, List.set_cons_succ]
            have XD3 := Lib.hid hc.ex
            have C3 := Lib.hid hc
            have B3 := Lib.hid (box_far B2.out NE2.out hg)
            have NE3 := Lib.hid (own_far B2.out NE2.out hat)
            clear hc hg hat
            refine wpAnyH_ready (rs := [10]) (by kernel_rfl) (by simp) ?_
            refine AllReadyH.cons rfl (fun K hK => ?_) AllReadyH.nil
            refine step_append_ch rfl (.tmp 36) (.tmp 41) 22 rfl C3.out (by rfl) _ _ _ (by rfl) ([.float .f64 x]) (by simp [cellsF] <;> omega) ?_ ((fun ad had => by cases had; exact box_news B3.out)) (by first | exact cells_one _ | simp [Value.oneCell']) (by simp [cellsF] <;> omega) ?_
            · intro hao; first | cases hao | (split at hao <;> cases hao) | (simp at hao; try omega)
            intro v2 Y4 hc hg hat
            refine hK.out _ _ hc.ex (fun hHeld => ?_)
            clear hK K
            try simp only [Act.put, List.setIfInBounds_toArray, List.set_cons_zero, List.set_cons_succ]
            have XD4 := Lib.hid hc.ex
            have C4 := Lib.hid hc
            clear hc hg hat
            refine wpAnyH_ready (rs := [14]) (by kernel_rfl) (by simp) ?_
            refine AllReadyH.cons rfl (fun K hK => ?_) AllReadyH.nil
            refine step_append_ch rfl (.tmp 42) (.tmp 45) 22 rfl C4.out (by rfl) _ _ _ (by rfl) (cellsF (([] : List Nat).drop 0)) (by simp [cellsF] <;> omega) ?_ ((fun ad had => by cases had)) (by first | exact cells_one _ | simp [Value.oneCell']) (by simp [cellsF] <;> omega) ?_
            · intro hao; exact ⟨rfl, rfl⟩
            intro v3 Y5 hc hg hat
            refine hK.out _ _ hc.ex (fun hHeld => ?_)
            clear hK K
            try simp only [Act.put, List.setIfInBounds_toArray, List.set_cons_zero, List.set_cons_succ]
            have XD5 := Lib.hid hc.ex
            have C5 := Lib.hid hc
            clear hc hg hat
            refine wpAnyH_ready (rs := [15]) (by kernel_rfl) (by simp) ?_
            refine AllReadyH.cons rfl (fun K hK => ?_) AllReadyH.nil
            go_simp
            refine hK.out _ _ XD5.out (fun hHeld => ?_)
            clear hK K
            try simp only [Act.put, List.setIfInBounds_toArray, List.set_cons_zero, List.set_cons_succ]
            refine wpAnyH_done (by kernel_rfl) ?_ _
            have CE := Lib.hid C5.out
            rotate_left
            all_goals
              clear CX
              go_wp2_with fail
              go_roundw
              case rel => exact ⟨0 + 1, by omega, by simp, row_ins CE.out HKI.out HS.out HXX.out.size, HXX.out.trans CE.out.ex⟩
              case measure => simp [intOf]; omega
          · have hvc' : (o.length : Int) ≤ (vc : Int) := by omega
            have hkl : 0 ≤ o.length := HKL.out
            have hki : (0 : Int) ≤ (o.length : Int) := by omega
            have hkc : (0 : Int) ≤ (vc : Int) := by omega
            have NW1 := Lib.hid (fun W (hW : Ex wx.drew W) => news_take (HCL.out g rfl W (HY.out.trans ((ex_drw wx).trans hW))).2 0)
            have NW3 := Lib.hid (fun W (hW : Ex wx.drew W) => news_drop (HCL.out g rfl W (HY.out.trans ((ex_drw wx).trans hW))).2 0 vc hvc)
            clear hvc HCL
            refine wp_region_held_drew (S := fun w' => Ex wx.drew w') (by kernel_rfl) (Ex.refl _) (fun hHeld => ?_)
            have XD0 := Lib.hid (Ex.refl wx.drew)
            generalize wx.drew = Y0 at *
            refine wpAnyH_take (i := 1) (v := ?_) rfl (by kernel_rfl) (by kernel_rfl) (by kernel_rfl) (fun _ _ _ h => h) (Or.inl ⟨by rfl, ?_⟩) (by assumption) ?_
            rotate_left
            · intro w hSw; (try dsimp only at hSw); have c0 := CX.out w hSw; go_simp; try with_reducible rfl
            try simp only [Act.put, List.setIfInBounds_toArray, List.set_cons_zero, List.set_cons_succ]
            refine wpAnyH_take (i := 2) (v := ?_) rfl (by kernel_rfl) (by kernel_rfl) (by kernel_rfl) (fun _ _ _ h => h) (Or.inl ⟨by rfl, ?_⟩) (by assumption) ?_
            rotate_left
            · intro w hSw; (try dsimp only at hSw); have c0 := CX.out w hSw; go_simp; try with_reducible rfl
            try simp only [Act.put, List.setIfInBounds_toArray, List.set_cons_zero, List.set_cons_succ]
            refine wpAnyH_take (i := 3) (v := ?_) rfl (by kernel_rfl) (by kernel_rfl) (by kernel_rfl) (fun _ _ _ h => h) (Or.inl ⟨by rfl, ?_⟩) (by assumption) ?_
            rotate_left
            · intro w hSw; (try dsimp only at hSw); have c0 := CX.out w hSw; go_simp; try with_reducible rfl
            try simp only [Act.put, List.setIfInBounds_toArray, List.set_cons_zero, List.set_cons_succ]
            refine wpAnyH_take (i := 5) (v := ?_) rfl (by kernel_rfl) (by kernel_rfl) (by kernel_rfl) (fun _ _ _ h => h) (Or.inl ⟨by rfl, ?_⟩) (by assumption) ?_
            rotate_left
            · intro w hSw; (try dsimp only at hSw); have c0 := CX.out w hSw; go_simp; try with_reducible rfl
            try simp only [Act.put, List.setIfInBounds_toArray, List.set_cons_zero, List.set_cons_succ]
            refine wpAnyH_take (i := 6) (v := ?_) rfl (by kernel_rfl) (by kernel_rfl) (by kernel_rfl) (fun _ _ _ h => h) (Or.inl ⟨by rfl, ?_⟩) (by assumption) ?_
            rotate_left
            · intro w hSw; (try dsimp only at hSw); have c0 := CX.out w hSw; go_simp; try with_reducible rfl
            try simp only [Act.put, List.setIfInBounds_toArray, List.set_cons_zero, List.set_cons_succ]
            refine wpAnyH_take (i := 7) (v := ?_) rfl (by kernel_rfl) (by kernel_rfl) (by kernel_rfl) (fun _ _ _ h => h) (Or.inl ⟨by rfl, ?_⟩) (by assumption) ?_
            rotate_left
            · intro w hSw; (try dsimp only at hSw); have c0 := CX.out w hSw; go_simp; try with_reducible rfl
            try simp only [Act.put, List.setIfInBounds_toArray, List.set_cons_zero, List.set_cons_succ]
            refine wpAnyH_take (i := 8) (v := ?_) rfl (by kernel_rfl) (by kernel_rfl) (by kernel_rfl) (fun _ _ _ h => h) (Or.inl ⟨by rfl, ?_⟩) (by assumption) ?_
            rotate_left
            · intro w hSw; (try dsimp only at hSw); have c0 := CX.out w hSw; go_simp; try with_reducible rfl
            try simp only [Act.put, List.setIfInBounds_toArray, List.set_cons_zero, List.set_cons_succ]
            refine wpAnyH_take (i := 11) (v := ?_) rfl (by kernel_rfl) (by kernel_rfl) (by kernel_rfl) (fun _ _ _ h => h) (Or.inl ⟨by rfl, ?_⟩) (by assumption) ?_
            rotate_left
            · intro w hSw; (try dsimp only at hSw); have c0 := CX.out w hSw; go_simp; try with_reducible rfl
            try simp only [Act.put, List.setIfInBounds_toArray, List.set_cons_zero, List.set_cons_succ]
            refine wpAnyH_take (i := 12) (v := ?_) rfl (by kernel_rfl) (by kernel_rfl) (by kernel_rfl) (fun _ _ _ h => h) (Or.inl ⟨by rfl, ?_⟩) (by assumption) ?_
            rotate_left
            · intro w hSw; (try dsimp only at hSw); have c0 := CX.out w hSw; go_simp; try with_reducible rfl
            try simp only [Act.put, List.setIfInBounds_toArray, List.set_cons_zero, List.set_cons_succ]
            refine wpAnyH_take (i := 13) (v := ?_) rfl (by kernel_rfl) (by kernel_rfl) (by kernel_rfl) (fun _ _ _ h => h) (Or.inl ⟨by rfl, ?_⟩) (by assumption) ?_
            rotate_left
            · intro w hSw; (try dsimp only at hSw); have c0 := CX.out w hSw; go_simp; try with_reducible rfl
            try simp only [Act.put, List.setIfInBounds_toArray, List.set_cons_zero, List.set_cons_succ]
            refine wpAnyH_ready (rs := [0, 9]) (by kernel_rfl) (by simp) ?_
            refine AllReadyH.cons rfl (fun K hK => ?_) (AllReadyH.cons rfl (fun K hK => ?_) AllReadyH.nil)
            go_simp
            have hx := (XD0.out.trans (Ex.made Y0 (.cells #[] 23)))
            refine hK.out _ _ hx (fun hHeld => ?_)
            clear hK K
            try simp only [Act.put, List.setIfInBounds_toArray, List.set_cons_zero, List.set_cons_succ]
            have hc := CH.lit XD0.out
            obtain ⟨e0, he0⟩ : ∃ e0, Y0.heap.size = e0 := ⟨_, rfl⟩
            rw [he0] at hc ⊢
            obtain ⟨v0, hv0⟩ : ∃ v0, Value.slice (some ⟨e0, 0, none⟩) 0 0 = v0 := ⟨_, rfl⟩
            have hne : ∀ q, v0.ownBlock = some q → q = e0 := fun q hq => by rw [← hv0] at hq; cases hq; rfl
            rw [hv0] at hc ⊢
            obtain ⟨Y1, hY⟩ : ∃ Y, Y = Y0.alloc (.cells #[] 23) := ⟨_, rfl⟩
            rw [← hY] at hx hc hHeld ⊢
            have XD1 := Lib.hid hx
            have C1 := Lib.hid hc
            clear hY hx hc hv0 hne he0
            refine wpAnyH_ready (rs := [4, 9]) (by kernel_rfl) (by simp) ?_
            refine AllReadyH.cons rfl (fun K hK => ?_) (AllReadyH.cons rfl (fun K hK => ?_) AllReadyH.nil)
            refine step_append_ch rfl (.tmp 32) (.tmp 35) 22 rfl C1.out (by rfl) _ _ _ (by rfl) (cellsF (o.take 0)) (by simp [cellsF] <;> omega) ?_ (NW1.out Y1 XD1.out) (by first | exact cells_one _ | simp [Value.oneCell']) (by simp [cellsF] <;> omega) ?_
            · intro hao; first | cases hao | (split at hao <;> cases hao) | (simp at hao; try omega)
            intro v1 Y2 hc hg hat
            refine hK.out _ _ hc.ex (fun hHeld => ?_)
            clear hK K
            try simp only [Act.put, List.setIfInBounds_toArray, List.set_cons_zero, List.set_cons_succ]
            have XD2 := Lib.hid hc.ex
            have C2 := Lib.hid hc
            clear hc hg hat
            refine wpAnyH_ready (rs := [9]) (by kernel_rfl) (by simp) ?_
            refine AllReadyH.cons rfl (fun K hK => ?_) AllReadyH.nil
            go_simp
            have hx := (XD2.out.trans (Ex.made Y2 (.cells #[.float .f64 x] 23)))
            refine hK.out _ _ hx (fun hHeld => ?_)
            clear hK K
            try simp only [Act.put, List.setIfInBounds_toArray, List.set_cons_zero, List.set_cons_succ]
            have hb := Box.fresh Y2 #[.float .f64 x] 23
            have hc := C2.out.made (.cells #[.float .f64 x] 23)
            have hne := C2.out.new
            obtain ⟨nb, hnb⟩ : ∃ b, Y2.heap.size = b := ⟨_, rfl⟩
            rw [hnb] at hb hne ⊢
            obtain ⟨Y3, hY⟩ : ∃ Y, Y = Y2.alloc (.cells #[.float .f64 x] 23) := ⟨_, rfl⟩
            rw [← hY] at hx hb hHeld hc ⊢
            have XD3 := Lib.hid hx
            have B3 := Lib.hid hb
            have C3 := Lib.hid hc
            have NE3 := Lib.hid hne
            clear hc hne
            clear hY hnb hx hb
            refine wpAnyH_ready (rs := [10]) (by kernel_rfl) (by simp) ?_
            refine AllReadyH.cons rfl (fun K hK => ?_) AllReadyH.nil
            refine step_append_ch rfl (.tmp 36) (.tmp 41) 22 rfl C3.out (by rfl) _ _ _ (by rfl) ([.float .f64 x]) (by simp [cellsF] <;> omega) ?_ ((fun ad had => by cases had; exact box_news B3.out)) (by first | exact cells_one _ | simp [Value.oneCell']) (by simp [cellsF] <;> omega) ?_
            · intro hao; first | cases hao | (split at hao <;> cases hao) | (simp at hao; try omega)
            intro v2 Y4 hc hg hat
            refine hK.out _ _ hc.ex (fun hHeld => ?_)
            clear hK K
            try simp only [Act.put, List.setIfInBounds_toArray, List.set_cons_zero, List.set_cons_succ]
            have XD4 := Lib.hid hc.ex
            have C4 := Lib.hid hc
            clear hc hg hat
            refine wpAnyH_ready (rs := [14]) (by kernel_rfl) (by simp) ?_
            refine AllReadyH.cons rfl (fun K hK => ?_) AllReadyH.nil
            refine step_append_ch rfl (.tmp 42) (.tmp 45) 22 rfl C4.out (by rfl) _ _ _ (by rfl) (cellsF (o.drop 0)) (by simp [cellsF] <;> omega) ?_ (NW3.out Y4 XD4.out _ (by intro h; first | rfl | simp [h])) (by first | exact cells_one _ | simp [Value.oneCell']) (by simp [cellsF] <;> omega) ?_
            · intro hao; first | cases hao | (split at hao <;> cases hao) | (simp at hao; try omega)
            intro v3 Y5 hc hg hat
            refine hK.out _ _ hc.ex (fun hHeld => ?_)
            clear hK K
            try simp only [Act.put, List.setIfInBounds_toArray, List.set_cons_zero, List.set_cons_succ]
            have XD5 := Lib.hid hc.ex
            have C5 := Lib.hid hc
            clear hc hg hat
            refine wpAnyH_ready (rs := [15]) (by kernel_rfl) (by simp) ?_
            refine AllReadyH.cons rfl (fun K hK => ?_) AllReadyH.nil
            go_simp
            refine hK.out _ _ XD5.out (fun hHeld => ?_)
            clear hK K
            try simp only [Act.put, List.setIfInBounds_toArray, List.set_cons_zero, List.set_cons_succ]
            refine wpAnyH_done (by kernel_rfl) ?_ _
            have CE := Lib.hid C5.out
            rotate_left
            go_simp
            have hx := (XD1.out.trans (Ex.made Y1 (.cells #[.float .f64 x] 23)))
            refine hK.out _ _ hx (fun hHeld => ?_)
            clear hK K
            try simp only [Act.put, List.setIfInBounds_toArray, List.set_cons_zero, List.set_cons_succ]
            have hb := Box.fresh Y1 #[.float .f64 x] 23
            have hc := C1.out.made (.cells #[.float .f64 x] 23)
            have hne := C1.out.new
            obtain ⟨nb, hnb⟩ : ∃ b, Y1.heap.size = b := ⟨_, rfl⟩
            rw [hnb] at hb hne ⊢
            obtain ⟨Y2, hY⟩ : ∃ Y, Y = Y1.alloc (.cells #[.float .f64 x] 23) := ⟨_, rfl⟩
            rw [← hY] at hx hb hHeld hc ⊢
            have XD2 := Lib.hid hx
            have B2 := Lib.hid hb
            have C2 := Lib.hid hc
            have NE2 := Lib.hid hne
            clear hc hne
            clear hY hnb hx hb
            refine wpAnyH_ready (rs := [4]) (by kernel_rfl) (by simp) ?_
            refine AllReadyH.cons rfl (fun K hK => ?_) AllReadyH.nil
            refine step_append_ch rfl (.tmp 32) (.tmp 35) 22 rfl C2.out (by rfl) _ _ _ (by rfl) (cellsF (o.take 0)) (by simp [cellsF] <;> omega) ?_ (NW1.out Y2 XD2.out) (by first | exact cells_one _ | simp [Value.oneCell']) (by simp [cellsF] <;> omega) ?_
            · intro hao; first | cases hao | (split at hao <;> cases hao) | (simp at hao; try omega)
            intro v1 Y3 hc hg hat
            refine hK.out _ _ hc.ex (fun hHeld => ?_)
            clear hK K
            try simp only [Act.put, List.setIfInBounds_toArray, List.set_cons_zero, List.set_cons_succ]
            have XD3 := Lib.hid hc.ex
            have C3 := Lib.hid hc
            have B3 := Lib.hid (box_far B2.out NE2.out hg)
            have NE3 := Lib.hid (own_far B2.out NE2.out hat)
            clear hc hg hat
            refine wpAnyH_ready (rs := [10]) (by kernel_rfl) (by simp) ?_
            refine AllReadyH.cons rfl (fun K hK => ?_) AllReadyH.nil
            refine step_append_ch rfl (.tmp 36) (.tmp 41) 22 rfl C3.out (by rfl) _ _ _ (by rfl) ([.float .f64 x]) (by simp [cellsF] <;> omega) ?_ ((fun ad had => by cases had; exact box_news B3.out)) (by first | exact cells_one _ | simp [Value.oneCell']) (by simp [cellsF] <;> omega) ?_
            · intro hao; first | cases hao | (split at hao <;> cases hao) | (simp at hao; try omega)
            intro v2 Y4 hc hg hat
            refine hK.out _ _ hc.ex (fun hHeld => ?_)
            clear hK K
            try simp only [Act.put, List.setIfInBounds_toArray, List.set_cons_zero, List.set_cons_succ]
            have XD4 := Lib.hid hc.ex
            have C4 := Lib.hid hc
            clear hc hg hat
            refine wpAnyH_ready (rs := [14]) (by kernel_rfl) (by simp) ?_
            refine AllReadyH.cons rfl (fun K hK => ?_) AllReadyH.nil
            refine step_append_ch rfl (.tmp 42) (.tmp 45) 22 rfl C4.out (by rfl) _ _ _ (by rfl) (cellsF (o.drop 0)) (by simp [cellsF] <;> omega) ?_ (NW3.out Y4 XD4.out _ (by intro h; first | rfl | simp [h])) (by first | exact cells_one _ | simp [Value.oneCell']) (by simp [cellsF] <;> omega) ?_
            · intro hao; first | cases hao | (split at hao <;> cases hao) | (simp at hao; try omega)
            intro v3 Y5 hc hg hat
            refine hK.out _ _ hc.ex (fun hHeld => ?_)
            clear hK K
            try simp only [Act.put, List.setIfInBounds_toArray, List.set_cons_zero, List.set_cons_succ]
            have XD5 := Lib.hid hc.ex
            have C5 := Lib.hid hc
            clear hc hg hat
            refine wpAnyH_ready (rs := [15]) (by kernel_rfl) (by simp) ?_
            refine AllReadyH.cons rfl (fun K hK => ?_) AllReadyH.nil
            go_simp
            refine hK.out _ _ XD5.out (fun hHeld => ?_)
            clear hK K
            try simp only [Act.put, List.setIfInBounds_toArray, List.set_cons_zero, List.set_cons_succ]
            refine wpAnyH_done (by kernel_rfl) ?_ _
            have CE := Lib.hid C5.out
            rotate_left
            go_simp
            have hx := (XD0.out.trans (Ex.made Y0 (.cells #[.float .f64 x] 23)))
            refine hK.out _ _ hx (fun hHeld => ?_)
            clear hK K
            try simp only [Act.put, List.setIfInBounds_toArray, List.set_cons_zero, List.set_cons_succ]
            have hb := Box.fresh Y0 #[.float .f64 x] 23
            obtain ⟨nb, hnb⟩ : ∃ b, Y0.heap.size = b := ⟨_, rfl⟩
            rw [hnb] at hb ⊢
            obtain ⟨Y1, hY⟩ : ∃ Y, Y = Y0.alloc (.cells #[.float .f64 x] 23) := ⟨_, rfl⟩
            rw [← hY] at hx hb hHeld ⊢
            have XD1 := Lib.hid hx
            have B1 := Lib.hid hb
            clear hY hnb hx hb
            refine wpAnyH_ready (rs := [0]) (by kernel_rfl) (by simp) ?_
            refine AllReadyH.cons rfl (fun K hK => ?_) AllReadyH.nil
            go_simp
            have hx := (XD1.out.trans (Ex.made Y1 (.cells #[] 23)))
            refine hK.out _ _ hx (fun hHeld => ?_)
            clear hK K
            try simp only [Act.put, List.setIfInBounds_toArray, List.set_cons_zero, List.set_cons_succ]
            have hc := CH.lit XD1.out
            have hb := (B1.out.ex (Ex.made Y1 (.cells #[] 23)))
            have hlt := B1.out.lt
            obtain ⟨e0, he0⟩ : ∃ e0, Y1.heap.size = e0 := ⟨_, rfl⟩
            rw [he0] at hc ⊢
            rw [he0] at hlt
            obtain ⟨v0, hv0⟩ : ∃ v0, Value.slice (some ⟨e0, 0, none⟩) 0 0 = v0 := ⟨_, rfl⟩
            have hne : ∀ q, v0.ownBlock = some q → q = e0 := fun q hq => by rw [← hv0] at hq; cases hq; rfl
            rw [hv0] at hc ⊢
            obtain ⟨Y2, hY⟩ : ∃ Y, Y = Y1.alloc (.cells #[] 23) := ⟨_, rfl⟩
            rw [← hY] at hx hc hb hHeld ⊢
            have XD2 := Lib.hid hx
            have C2 := Lib.hid hc
            have B2 := Lib.hid hb
            have NE2 : Hid (v0.ownBlock ≠ some nb) := Lib.hid (fun e => by have := hne nb e; omega)
            clear hb hlt
            clear hY hx hc hv0 hne he0
            refine wpAnyH_ready (rs := [4]) (by kernel_rfl) (by simp) ?_
            refine AllReadyH.cons rfl (fun K hK => ?_) AllReadyH.nil
            refine step_append_ch rfl (.tmp 32) (.tmp 35) 22 rfl C2.out (by rfl) _ _ _ (by rfl) (cellsF (o.take 0)) (by simp [cellsF] <;> omega) ?_ (NW1.out Y2 XD2.out) (by first | exact cells_one _ | simp [Value.oneCell']) (by simp [cellsF] <;> omega) ?_
            · intro hao; first | cases hao | (split at hao <;> cases hao) | (simp at hao; try omega)
            intro v1 Y3 hc hg hat
            refine hK.out _ _ hc.ex (fun hHeld => ?_)
            clear hK K
            try simp only [Act.put, List.setIfInBounds_toArray, List.set_cons_zero, List.set_cons_succ]
            have XD3 := Lib.hid hc.ex
            have C3 := Lib.hid hc
            have B3 := Lib.hid (box_far B2.out NE2.out hg)
            have NE3 := Lib.hid (own_far B2.out NE2.out hat)
            clear hc hg hat
            refine wpAnyH_ready (rs := [10]) (by kernel_rfl) (by simp) ?_
            refine AllReadyH.cons rfl (fun K hK => ?_) AllReadyH.nil
            refine step_append_ch rfl (.tmp 36) (.tmp 41) 22 rfl C3.out (by rfl) _ _ _ (by rfl) ([.float .f64 x]) (by simp [cellsF] <;> omega) ?_ ((fun ad had => by cases had; exact box_news B3.out)) (by first | exact cells_one _ | simp [Value.oneCell']) (by simp [cellsF] <;> omega) ?_
            · intro hao; first | cases hao | (split at hao <;> cases hao) | (simp at hao; try omega)
            intro v2 Y4 hc hg hat
            refine hK.out _ _ hc.ex (fun hHeld => ?_)
            clear hK K
            try simp only [Act.put, List.setIfInBounds_toArray, List.set_cons_zero, List.set_cons_succ]
            have XD4 := Lib.hid hc.ex
            have C4 := Lib.hid hc
            clear hc hg hat
            refine wpAnyH_ready (rs := [14]) (by kernel_rfl) (by simp) ?_
            refine AllReadyH.cons rfl (fun K hK => ?_) AllReadyH.nil
            refine step_append_ch rfl (.tmp 42) (.tmp 45) 22 rfl C4.out (by rfl) _ _ _ (by rfl) (cellsF (o.drop 0)) (by simp [cellsF] <;> omega) ?_ (NW3.out Y4 XD4.out _ (by intro h; first | rfl | simp [h])) (by first | exact cells_one _ | simp [Value.oneCell']) (by simp [cellsF] <;> omega) ?_
            · intro hao; first | cases hao | (split at hao <;> cases hao) | (simp at hao; try omega)
            intro v3 Y5 hc hg hat
            refine hK.out _ _ hc.ex (fun hHeld => ?_)
            clear hK K
            try simp only [Act.put, List.setIfInBounds_toArray, List.set_cons_zero, List.set_cons_succ]
            have XD5 := Lib.hid hc.ex
            have C5 := Lib.hid hc
            clear hc hg hat
            refine wpAnyH_ready (rs := [15]) (by kernel_rfl) (by simp) ?_
            refine AllReadyH.cons rfl (fun K hK => ?_) AllReadyH.nil
            go_simp
            refine hK.out _ _ XD5.out (fun hHeld => ?_)
            clear hK K
            try simp only [Act.put, List.setIfInBounds_toArray, List.set_cons_zero, List.set_cons_succ]
            refine wpAnyH_done (by kernel_rfl) ?_ _
            have CE := Lib.hid C5.out
            rotate_left
            all_goals
              clear CX NW1 NW3 HSH
              go_wp2_with fail
              go_roundw
              case rel => exact ⟨i + 1, by omega, by simp, row_ins CE.out HKI.out HS.out HXX.out.size, HXX.out.trans CE.out.ex⟩
              case measure => simp [intOf]; omega
        | succ j =>
          obtain ⟨kk, hkk⟩ : ∃ kk, j + 1 = kk := ⟨_, rfl⟩
          rw [hkk] at hj HC ⊢
          have HKK := Lib.hid hkk
          obtain ⟨y, hy⟩ : ∃ y, o.getD j 0 = y := ⟨_, rfl⟩
          have r0 : (kk : Int) - 1 = (j : Int) := by omega
          have r1 : wrap64 (j : Int) = (j : Int) := by unfold wrap64; omega
          have r2 : (0 : Int) < (kk : Int) := by omega
          have r4 : 0 < kk := by omega
          have r5 : decide (0 < kk) = true := decide_eq_true r4
          have r3 : (j : Int) < (o.length : Int) := by omega
          obtain ⟨b, off, rfl, hb, hc⟩ := (HF.out.ex HW.out).2.resolve_left (by omega)
          have c1 : wr.cell? ⟨b, off + j, none⟩ = some (.float .f64 y) := hy ▸ hc j (by omega)
          have c2 : wr.cell? ⟨b2, off2 + i, none⟩ = some (.float .f64 x) := cell_later HW.out C0.out
          have z1 : ∀ o : Out wr, o.w.cell? ⟨b, off + j, none⟩ = some (.float .f64 y) := fun o => cell_later o.2 c1
          have z2 : ∀ o : Out wr, o.w.cell? ⟨b2, off2 + i, none⟩ = some (.float .f64 x) := fun o => cell_later o.2 c2
          have HYV := Lib.hid hy
          have HJ : Hid (kk ≤ o.length) := Lib.hid hj
          have ra : (j : Int) ≤ 200 := by omega
          cases hk : decide (key y < key x)
          · have hl : ∀ o : Out wr, Calls Tryd.prog 24 #[.float .f64 y, .float .f64 x] o.w fun e w' => e = .returned (.bool false) ∧ o.w = w' := fun o => rless_any o.w y x false hk
            have HK0 : Hid (¬ key y < key x) := Lib.hid (of_decide_eq_false hk)
            clear hy hc c1 c2 hk hb hj hkk
            go_upto_region 6 with fail
            refine wp_region_ex (by kernel_rfl) (by kernel_rfl) ?_
            repeat (go_big_quiet_step ((go_at_call 24; exact quiet_eq (hl _))))
            refine wpQuiet_nil ?_
            rintro w4 ⟨wz, rfl⟩
            have hex : Ex wr wz.w := wz.2
            obtain ⟨wx, hwx⟩ : ∃ V, wz.w = V := ⟨_, rfl⟩
            have HY := Lib.hid (HW.out.trans hex)
            have HKI : Hid (cutK o x o.length = kk) := Lib.hid (by rw [← HC.out, ← HKK.out, cutK, HYV.out, if_neg HK0.out])
            have HKL : Hid (kk ≤ o.length) := HJ
            rw [hwx] at HY ⊢
            clear hex hwx hl z1 z2
            go_upto_region 8 with fail
            have CX := Lib.hid (fun W (hW : Ex wx.drew W) => HCX.out W (HY.out.trans ((ex_drw wx).trans hW)))
            have HXX := Lib.hid (HX.out.trans (HY.out.trans (ex_drw wx)))
            have HSZ : Hid (o.length ≤ 200) := Lib.hid (by omega)
            rcases HSH.out with ⟨hva, -, ho0⟩ | ⟨g, hva, hvc⟩
            · cases hva
            · cases hva
              have hvc' : (o.length : Int) ≤ (vc : Int) := by omega
              have hkn : kk ≤ i := by have := HKL.out; omega
              have hkl : kk ≤ o.length := HKL.out
              have hki : (kk : Int) ≤ (o.length : Int) := by omega
              have hkc : (kk : Int) ≤ (vc : Int) := by omega
              have NW1 := Lib.hid (fun W (hW : Ex wx.drew W) => news_take (HCL.out b rfl W (HY.out.trans ((ex_drw wx).trans hW))).2 kk)
              have NW3 := Lib.hid (fun W (hW : Ex wx.drew W) => news_drop (HCL.out b rfl W (HY.out.trans ((ex_drw wx).trans hW))).2 kk vc hvc)
              clear hvc HCL
              refine wp_region_held_drew (S := fun w' => Ex wx.drew w') (by kernel_rfl) (Ex.refl _) (fun hHeld => ?_)
              have XD0 := Lib.hid (Ex.refl wx.drew)
              generalize wx.drew = Y0 at *
              refine wpAnyH_take (i := 1) (v := ?_) rfl (by kernel_rfl) (by kernel_rfl) (by kernel_rfl) (fun _ _ _ h => h) (Or.inl ⟨by rfl, ?_⟩) (by assumption) ?_
              rotate_left
              · intro w hSw; (try dsimp only at hSw); have c0 := CX.out w hSw; go_simp; try with_reducible rfl
              try simp only [Act.put, List.setIfInBounds_toArray, List.set_cons_zero, List.set_cons_succ]
              refine wpAnyH_take (i := 2) (v := ?_) rfl (by kernel_rfl) (by kernel_rfl) (by kernel_rfl) (fun _ _ _ h => h) (Or.inl ⟨by rfl, ?_⟩) (by assumption) ?_
              rotate_left
              · intro w hSw; (try dsimp only at hSw); have c0 := CX.out w hSw; go_simp; try with_reducible rfl
              try simp only [Act.put, List.setIfInBounds_toArray, List.set_cons_zero, List.set_cons_succ]
              refine wpAnyH_take (i := 3) (v := ?_) rfl (by kernel_rfl) (by kernel_rfl) (by kernel_rfl) (fun _ _ _ h => h) (Or.inl ⟨by rfl, ?_⟩) (by assumption) ?_
              rotate_left
              · intro w hSw; (try dsimp only at hSw); have c0 := CX.out w hSw; go_simp; try with_reducible rfl
              try simp only [Act.put, List.setIfInBounds_toArray, List.set_cons_zero, List.set_cons_succ]
              refine wpAnyH_take (i := 5) (v := ?_) rfl (by kernel_rfl) (by kernel_rfl) (by kernel_rfl) (fun _ _ _ h => h) (Or.inl ⟨by rfl, ?_⟩) (by assumption) ?_
              rotate_left
              · intro w hSw; (try dsimp only at hSw); have c0 := CX.out w hSw; go_simp; try with_reducible rfl
              try simp only [Act.put, List.setIfInBounds_toArray, List.set_cons_zero, List.set_cons_succ]
              refine wpAnyH_take (i := 6) (v := ?_) rfl (by kernel_rfl) (by kernel_rfl) (by kernel_rfl) (fun _ _ _ h => h) (Or.inl ⟨by rfl, ?_⟩) (by assumption) ?_
              rotate_left
              · intro w hSw; (try dsimp only at hSw); have c0 := CX.out w hSw; go_simp; try with_reducible rfl
              try simp only [Act.put, List.setIfInBounds_toArray, List.set_cons_zero, List.set_cons_succ]
              refine wpAnyH_take (i := 7) (v := ?_) rfl (by kernel_rfl) (by kernel_rfl) (by kernel_rfl) (fun _ _ _ h => h) (Or.inl ⟨by rfl, ?_⟩) (by assumption) ?_
              rotate_left
              · intro w hSw; (try dsimp only at hSw); have c0 := CX.out w hSw; go_simp; try with_reducible rfl
              try simp only [Act.put, List.setIfInBounds_toArray, List.set_cons_zero, List.set_cons_succ]
              refine wpAnyH_take (i := 8) (v := ?_) rfl (by kernel_rfl) (by kernel_rfl) (by kernel_rfl) (fun _ _ _ h => h) (Or.inl ⟨by rfl, ?_⟩) (by assumption) ?_
              rotate_left
              · intro w hSw; (try dsimp only at hSw); have c0 := CX.out w hSw; go_simp; try with_reducible rfl
              try simp only [Act.put, List.setIfInBounds_toArray, List.set_cons_zero, List.set_cons_succ]
              refine wpAnyH_take (i := 11) (v := ?_) rfl (by kernel_rfl) (by kernel_rfl) (by kernel_rfl) (fun _ _ _ h => h) (Or.inl ⟨by rfl, ?_⟩) (by assumption) ?_
              rotate_left
              · intro w hSw; (try dsimp only at hSw); have c0 := CX.out w hSw; go_simp; try with_reducible rfl
              try simp only [Act.put, List.setIfInBounds_toArray, List.set_cons_zero, List.set_cons_succ]
              refine wpAnyH_take (i := 12) (v := ?_) rfl (by kernel_rfl) (by kernel_rfl) (by kernel_rfl) (fun _ _ _ h => h) (Or.inl ⟨by rfl, ?_⟩) (by assumption) ?_
              rotate_left
              · intro w hSw; (try dsimp only at hSw); have c0 := CX.out w hSw; go_simp; try with_reducible rfl
              try simp only [Act.put, List.setIfInBounds_toArray, List.set_cons_zero, List.set_cons_succ]
              refine wpAnyH_take (i := 13) (v := ?_) rfl (by kernel_rfl) (by kernel_rfl) (by kernel_rfl) (fun _ _ _ h => h) (Or.inl ⟨by rfl, ?_⟩) (by assumption) ?_
              rotate_left
              · intro w hSw; (try dsimp only at hSw); have c0 := CX.out w hSw; go_simp; try with_reducible rfl
              try simp only [Act.put, List.setIfInBounds_toArray, List.set_cons_zero, List.set_cons_succ]
              refine wpAnyH_ready (rs := [0, 9]) (by kernel_rfl) (by simp) ?_
              refine AllReadyH.cons rfl (fun K hK => ?_) (AllReadyH.cons rfl (fun K hK => ?_) AllReadyH.nil)
              go_simp
              have hx := (XD0.out.trans (Ex.made Y0 (.cells #[] 23)))
              refine hK.out _ _ hx (fun hHeld => ?_)
              clear hK K
              try simp only [Act.put, List.setIfInBounds_toArray, List.set_cons_zero, List.set_cons_succ]
              have hc := CH.lit XD0.out
              obtain ⟨e0, he0⟩ : ∃ e0, Y0.heap.size = e0 := ⟨_, rfl⟩
              rw [he0] at hc ⊢
              obtain ⟨v0, hv0⟩ : ∃ v0, Value.slice (some ⟨e0, 0, none⟩) 0 0 = v0 := ⟨_, rfl⟩
              have hne : ∀ q, v0.ownBlock = some q → q = e0 := fun q hq => by rw [← hv0] at hq; cases hq; rfl
              rw [hv0] at hc ⊢
              obtain ⟨Y1, hY⟩ : ∃ Y, Y = Y0.alloc (.cells #[] 23) := ⟨_, rfl⟩
              rw [← hY] at hx hc hHeld ⊢
              have XD1 := Lib.hid hx
              have C1 := Lib.hid hc
              clear hY hx hc hv0 hne he0
              refine wpAnyH_ready (rs := [4, 9]) (by kernel_rfl) (by simp) ?_
              refine AllReadyH.cons rfl (fun K hK => ?_) (AllReadyH.cons rfl (fun K hK => ?_) AllReadyH.nil)
              refine step_append_ch rfl (.tmp 32) (.tmp 35) 22 rfl C1.out (by rfl) _ _ _ (by rfl) (cellsF (o.take kk)) (by simp [cellsF] <;> omega) ?_ (NW1.out Y1 XD1.out) (by first | exact cells_one _ | simp [Value.oneCell']) (by simp [cellsF] <;> omega) ?_
              · intro hao; first | cases hao | (split at hao <;> cases hao) | (simp at hao; try omega)
              intro v1 Y2 hc hg hat
              refine hK.out _ _ hc.ex (fun hHeld => ?_)
              clear hK K
              try simp only [Act.put, List.setIfInBounds_toArray, List.set_cons_zero, List.set_cons_succ]
              have XD2 := Lib.hid hc.ex
              have C2 := Lib.hid hc
              clear hc hg hat
              refine wpAnyH_ready (rs := [9]) (by kernel_rfl) (by simp) ?_
              refine AllReadyH.cons rfl (fun K hK => ?_) AllReadyH.nil
              go_simp
              have hx := (XD2.out.trans (Ex.made Y2 (.cells #[.float .f64 x] 23)))
              refine hK.out _ _ hx (fun hHeld => ?_)
              clear hK K
              try simp only [Act.put, List.setIfInBounds_toArray, List.set_cons_zero, List.set_cons_succ]
              have hb := Box.fresh Y2 #[.float .f64 x] 23
              have hc := C2.out.made (.cells #[.float .f64 x] 23)
              have hne := C2.out.new
              obtain ⟨nb, hnb⟩ : ∃ b, Y2.heap.size = b := ⟨_, rfl⟩
              rw [hnb] at hb hne ⊢
              obtain ⟨Y3, hY⟩ : ∃ Y, Y = Y2.alloc (.cells #[.float .f64 x] 23) := ⟨_, rfl⟩
              rw [← hY] at hx hb hHeld hc ⊢
              have XD3 := Lib.hid hx
              have B3 := Lib.hid hb
              have C3 := Lib.hid hc
              have NE3 := Lib.hid hne
              clear hc hne
              clear hY hnb hx hb
              refine wpAnyH_ready (rs := [10]) (by kernel_rfl) (by simp) ?_
              refine AllReadyH.cons rfl (fun K hK => ?_) AllReadyH.nil
              refine step_append_ch rfl (.tmp 36) (.tmp 41) 22 rfl C3.out (by rfl) _ _ _ (by rfl) ([.float .f64 x]) (by simp [cellsF] <;> omega) ?_ ((fun ad had => by cases had; exact box_news B3.out)) (by first | exact cells_one _ | simp [Value.oneCell']) (by simp [cellsF] <;> omega) ?_
              · intro hao; first | cases hao | (split at hao <;> cases hao) | (simp at hao; try omega)
              intro v2 Y4 hc hg hat
              refine hK.out _ _ hc.ex (fun hHeld => ?_)
              clear hK K
              try simp only [Act.put, List.setIfInBounds_toArray, List.set_cons_zero, List.set_cons_succ]
              have XD4 := Lib.hid hc.ex
              have C4 := Lib.hid hc
              clear hc hg hat
              refine wpAnyH_ready (rs := [14]) (by kernel_rfl) (by simp) ?_
              refine AllReadyH.cons rfl (fun K hK => ?_) AllReadyH.nil
              refine step_append_ch rfl (.tmp 42) (.tmp 45) 22 rfl C4.out (by rfl) _ _ _ (by rfl) (cellsF (o.drop kk)) (by simp [cellsF] <;> omega) ?_ (NW3.out Y4 XD4.out _ (by intro h; first | rfl | simp [h])) (by first | exact cells_one _ | simp [Value.oneCell']) (by simp [cellsF] <;> omega) ?_
              · intro hao; first | cases hao | (split at hao <;> cases hao) | (simp at hao; try omega)
              intro v3 Y5 hc hg hat
              refine hK.out _ _ hc.ex (fun hHeld => ?_)
              clear hK K
              try simp only [Act.put, List.setIfInBounds_toArray, List.set_cons_zero, List.set_cons_succ]
              have XD5 := Lib.hid hc.ex
              have C5 := Lib.hid hc
              clear hc hg hat
              refine wpAnyH_ready (rs := [15]) (by kernel_rfl) (by simp) ?_
              refine AllReadyH.cons rfl (fun K hK => ?_) AllReadyH.nil
              go_simp
              refine hK.out _ _ XD5.out (fun hHeld => ?_)
              clear hK K
              try simp only [Act.put, List.setIfInBounds_toArray, List.set_cons_zero, List.set_cons_succ]
              refine wpAnyH_done (by kernel_rfl) ?_ _
              have CE := Lib.hid C5.out
              rotate_left
              go_simp
              have hx := (XD1.out.trans (Ex.made Y1 (.cells #[.float .f64 x] 23)))
              refine hK.out _ _ hx (fun hHeld => ?_)
              clear hK K
              try simp only [Act.put, List.setIfInBounds_toArray, List.set_cons_zero, List.set_cons_succ]
              have hb := Box.fresh Y1 #[.float .f64 x] 23
              have hc := C1.out.made (.cells #[.float .f64 x] 23)
              have hne := C1.out.new
              obtain ⟨nb, hnb⟩ : ∃ b, Y1.heap.size = b := ⟨_, rfl⟩
              rw [hnb] at hb hne ⊢
              obtain ⟨Y2, hY⟩ : ∃ Y, Y = Y1.alloc (.cells #[.float .f64 x] 23) := ⟨_, rfl⟩
              rw [← hY] at hx hb hHeld hc ⊢
              have XD2 := Lib.hid hx
              have B2 := Lib.hid hb
              have C2 := Lib.hid hc
              have NE2 := Lib.hid hne
              clear hc hne
              clear hY hnb hx hb
              refine wpAnyH_ready (rs := [4]) (by kernel_rfl) (by simp) ?_
              refine AllReadyH.cons rfl (fun K hK => ?_) AllReadyH.nil
              refine step_append_ch rfl (.tmp 32) (.tmp 35) 22 rfl C2.out (by rfl) _ _ _ (by rfl) (cellsF (o.take kk)) (by simp [cellsF] <;> omega) ?_ (NW1.out Y2 XD2.out) (by first | exact cells_one _ | simp [Value.oneCell']) (by simp [cellsF] <;> omega) ?_
              · intro hao; first | cases hao | (split at hao <;> cases hao) | (simp at hao; try omega)
              intro v1 Y3 hc hg hat
              refine hK.out _ _ hc.ex (fun hHeld => ?_)
              clear hK K
              try simp only [Act.put, List.setIfInBounds_toArray, List.set_cons_zero, List.set_cons_succ]
              have XD3 := Lib.hid hc.ex
              have C3 := Lib.hid hc
              have B3 := Lib.hid (box_far B2.out NE2.out hg)
              have NE3 := Lib.hid (own_far B2.out NE2.out hat)
              clear hc hg hat
              refine wpAnyH_ready (rs := [10]) (by kernel_rfl) (by simp) ?_
              refine AllReadyH.cons rfl (fun K hK => ?_) AllReadyH.nil
              refine step_append_ch rfl (.tmp 36) (.tmp 41) 22 rfl C3.out (by rfl) _ _ _ (by rfl) ([.float .f64 x]) (by simp [cellsF] <;> omega) ?_ ((fun ad had => by cases had; exact box_news B3.out)) (by first | exact cells_one _ | simp [Value.oneCell']) (by simp [cellsF] <;> omega) ?_
              · intro hao; first | cases hao | (split at hao <;> cases hao) | (simp at hao; try omega)
              intro v2 Y4 hc hg hat
              refine hK.out _ _ hc.ex (fun hHeld => ?_)
              clear hK K
              try simp only [Act.put, List.setIfInBounds_toArray, List.set_cons_zero, List.set_cons_succ]
              have XD4 := Lib.hid hc.ex
              have C4 := Lib.hid hc
              clear hc hg hat
              refine wpAnyH_ready (rs := [14]) (by kernel_rfl) (by simp) ?_
              refine AllReadyH.cons rfl (fun K hK => ?_) AllReadyH.nil
              refine step_append_ch rfl (.tmp 42) (.tmp 45) 22 rfl C4.out (by rfl) _ _ _ (by rfl) (cellsF (o.drop kk)) (by simp [cellsF] <;> omega) ?_ (NW3.out Y4 XD4.out _ (by intro h; first | rfl | simp [h])) (by first | exact cells_one _ | simp [Value.oneCell']) (by simp [cellsF] <;> omega) ?_
              · intro hao; first | cases hao | (split at hao <;> cases hao) | (simp at hao; try omega)
              intro v3 Y5 hc hg hat
              refine hK.out _ _ hc.ex (fun hHeld => ?_)
              clear hK K
              try simp only [Act.put, List.setIfInBounds_toArray, List.set_cons_zero, List.set_cons_succ]
              have XD5 := Lib.hid hc.ex
              have C5 := Lib.hid hc
              clear hc hg hat
              refine wpAnyH_ready (rs := [15]) (by kernel_rfl) (by simp) ?_
              refine AllReadyH.cons rfl (fun K hK => ?_) AllReadyH.nil
              go_simp
              refine hK.out _ _ XD5.out (fun hHeld => ?_)
              clear hK K
              try simp only [Act.put, List.setIfInBounds_toArray, List.set_cons_zero, List.set_cons_succ]
              refine wpAnyH_done (by kernel_rfl) ?_ _
              have CE := Lib.hid C5.out
              rotate_left
              go_simp
              have hx := (XD0.out.trans (Ex.made Y0 (.cells #[.float .f64 x] 23)))
              refine hK.out _ _ hx (fun hHeld => ?_)
              clear hK K
              try simp only [Act.put, List.setIfInBounds_toArray, List.set_cons_zero, List.set_cons_succ]
              have hb := Box.fresh Y0 #[.float .f64 x] 23
              obtain ⟨nb, hnb⟩ : ∃ b, Y0.heap.size = b := ⟨_, rfl⟩
              rw [hnb] at hb ⊢
              obtain ⟨Y1, hY⟩ : ∃ Y, Y = Y0.alloc (.cells #[.float .f64 x] 23) := ⟨_, rfl⟩
              rw [← hY] at hx hb hHeld ⊢
              have XD1 := Lib.hid hx
              have B1 := Lib.hid hb
              clear hY hnb hx hb
              refine wpAnyH_ready (rs := [0]) (by kernel_rfl) (by simp) ?_
              refine AllReadyH.cons rfl (fun K hK => ?_) AllReadyH.nil
              go_simp
              have hx := (XD1.out.trans (Ex.made Y1 (.cells #[] 23)))
              refine hK.out _ _ hx (fun hHeld => ?_)
              clear hK K
              try simp only [Act.put, List.setIfInBounds_toArray, List.set_cons_zero, List.set_cons_succ]
              have hc := CH.lit XD1.out
              have hb := (B1.out.ex (Ex.made Y1 (.cells #[] 23)))
              have hlt := B1.out.lt
              obtain ⟨e0, he0⟩ : ∃ e0, Y1.heap.size = e0 := ⟨_, rfl⟩
              rw [he0] at hc ⊢
              rw [he0] at hlt
              obtain ⟨v0, hv0⟩ : ∃ v0, Value.slice (some ⟨e0, 0, none⟩) 0 0 = v0 := ⟨_, rfl⟩
              have hne : ∀ q, v0.ownBlock = some q → q = e0 := fun q hq => by rw [← hv0] at hq; cases hq; rfl
              rw [hv0] at hc ⊢
              obtain ⟨Y2, hY⟩ : ∃ Y, Y = Y1.alloc (.cells #[] 23) := ⟨_, rfl⟩
              rw [← hY] at hx hc hb hHeld ⊢
              have XD2 := Lib.hid hx
              have C2 := Lib.hid hc
              have B2 := Lib.hid hb
              have NE2 : Hid (v0.ownBlock ≠ some nb) := Lib.hid (fun e => by have := hne nb e; omega)
              clear hb hlt
              clear hY hx hc hv0 hne he0
              refine wpAnyH_ready (rs := [4]) (by kernel_rfl) (by simp) ?_
              refine AllReadyH.cons rfl (fun K hK => ?_) AllReadyH.nil
              refine step_append_ch rfl (.tmp 32) (.tmp 35) 22 rfl C2.out (by rfl) _ _ _ (by rfl) (cellsF (o.take kk)) (by simp [cellsF] <;> omega) ?_ (NW1.out Y2 XD2.out) (by first | exact cells_one _ | simp [Value.oneCell']) (by simp [cellsF] <;> omega) ?_
              · intro hao; first | cases hao | (split at hao <;> cases hao) | (simp at hao; try omega)
              intro v1 Y3 hc hg hat
              refine hK.out _ _ hc.ex (fun hHeld => ?_)
              clear hK K
              try simp only [Act.put, List.setIfInBounds_toArray, List.set_cons_zero, List.set_cons_succ]
              have XD3 := Lib.hid hc.ex
              have C3 := Lib.hid hc
              have B3 := Lib.hid (box_far B2.out NE2.out hg)
              have NE3 := Lib.hid (own_far B2.out NE2.out hat)
              clear hc hg hat
              refine wpAnyH_ready (rs := [10]) (by kernel_rfl) (by simp) ?_
              refine AllReadyH.cons rfl (fun K hK => ?_) AllReadyH.nil
              refine step_append_ch rfl (.tmp 36) (.tmp 41) 22 rfl C3.out (by rfl) _ _ _ (by rfl) ([.float .f64 x]) (by simp [cellsF] <;> omega) ?_ ((fun ad had => by cases had; exact box_news B3.out)) (by first | exact cells_one _ | simp [Value.oneCell']) (by simp [cellsF] <;> omega) ?_
              · intro hao; first | cases hao | (split at hao <;> cases hao) | (simp at hao; try omega)
              intro v2 Y4 hc hg hat
              refine hK.out _ _ hc.ex (fun hHeld => ?_)
              clear hK K
              try simp only [Act.put, List.setIfInBounds_toArray, List.set_cons_zero, List.set_cons_succ]
              have XD4 := Lib.hid hc.ex
              have C4 := Lib.hid hc
              clear hc hg hat
              refine wpAnyH_ready (rs := [14]) (by kernel_rfl) (by simp) ?_
              refine AllReadyH.cons rfl (fun K hK => ?_) AllReadyH.nil
              refine step_append_ch rfl (.tmp 42) (.tmp 45) 22 rfl C4.out (by rfl) _ _ _ (by rfl) (cellsF (o.drop kk)) (by simp [cellsF] <;> omega) ?_ (NW3.out Y4 XD4.out _ (by intro h; first | rfl | simp [h])) (by first | exact cells_one _ | simp [Value.oneCell']) (by simp [cellsF] <;> omega) ?_
              · intro hao; first | cases hao | (split at hao <;> cases hao) | (simp at hao; try omega)
              intro v3 Y5 hc hg hat
              refine hK.out _ _ hc.ex (fun hHeld => ?_)
              clear hK K
              try simp only [Act.put, List.setIfInBounds_toArray, List.set_cons_zero, List.set_cons_succ]
              have XD5 := Lib.hid hc.ex
              have C5 := Lib.hid hc
              clear hc hg hat
              refine wpAnyH_ready (rs := [15]) (by kernel_rfl) (by simp) ?_
              refine AllReadyH.cons rfl (fun K hK => ?_) AllReadyH.nil
              go_simp
              refine hK.out _ _ XD5.out (fun hHeld => ?_)
              clear hK K
              try simp only [Act.put, List.setIfInBounds_toArray, List.set_cons_zero, List.set_cons_succ]
              refine wpAnyH_done (by kernel_rfl) ?_ _
              have CE := Lib.hid C5.out
              rotate_left
              all_goals
                clear CX NW1 NW3 HSH
                go_wp2_with fail
                go_roundw
                case rel => exact ⟨i + 1, by omega, by simp, row_ins CE.out HKI.out HS.out HXX.out.size, HXX.out.trans CE.out.ex⟩
                case measure => simp [intOf]; omega
          · have hl : ∀ o : Out wr, Calls Tryd.prog 24 #[.float .f64 y, .float .f64 x] o.w fun e w' => e = .returned (.bool true) ∧ o.w = w' := fun o => rless_any o.w y x true hk
            have HK0 : Hid (key y < key x) := Lib.hid (of_decide_eq_true hk)
            clear hy hc c1 c2 hk hb hj hkk
            go_upto_region 6 with fail
            refine wp_region_ex (by kernel_rfl) (by kernel_rfl) ?_
            repeat (go_big_quiet_step ((go_at_call 24; exact quiet_eq (hl _))))
            refine wpQuiet_nil ?_
            rintro w4 ⟨⟨wz, hw⟩, rfl⟩
            have HZ := Lib.hid hw
            clear hw hl z1 z2
            go_wp2_with fail
            go_roundw
            case rel =>
              refine ⟨j, by have := HJ.out; have := HKK.out; omega, rfl, ?_, HW.out.trans HZ.out⟩
              rw [← HC.out, ← HKK.out, cutK, HYV.out, if_pos HK0.out]
            case measure => have := HKK.out; simp [intOf]; omega
    · have e : i = n := by omega
      subst e
      have q1 : ¬ ((i : Int) < (i : Int)) := by omega
      have hN := HN.out
      have hmn : ∀ ts t (w : World), (Builtin.min_ ts t #[.int .i64 k, .int .i64 (i : Int)]).run Tryd.prog w = .ok (.int .i64 (min k i)) w := fun ts t w => by
        rw [run_min_int2]
        congr 2
        split <;> omega
      have hmx : ∀ ts t (w : World), (Builtin.max_ ts t #[.int .i64 0, .int .i64 (min k i)]).run Tryd.prog w = .ok (.int .i64 (N : Int)) w := fun ts t w => by
        rw [run_max_int2]
        congr 2
        split <;> omega
      have hNi : N ≤ i := by omega
      obtain ⟨o, ho⟩ : ∃ o, refL l i = o := ⟨_, rfl⟩
      rw [ho] at HR hol
      have HO := Lib.hid ho
      clear ho
      have hr := HR.out
      have hfs : ∀ va vc, u5 = .slice va o.length vc → Fs wr va N (o.take N) := fun va vc e => by
        obtain ⟨a', c', e', hF⟩ := hr.fs
        rw [e] at e'
        simp only [Value.slice.injEq, true_and] at e'
        rw [e'.1]
        refine ⟨by rw [List.length_take]; omega, ?_⟩
        rcases hF.2 with h0 | ⟨b, off, h1, h2, h3⟩
        · exact .inl (by omega)
        · refine .inr ⟨b, off, h1, h2, fun j hj => ?_⟩
          rw [h3 j (by omega)]
          simp [hj]
      have HFS := Lib.hid hfs
      rcases row_shape hr with ⟨hu, h0, -⟩ | ⟨g, vc, hu, -, -, h4, -⟩
      · have hn0 : N = 0 := by omega
        have HF := Lib.hid (HFS.out none 0 (by rw [hu, h0]))
        rw [hu]
        have hi0 : i = 0 := by omega
        subst hi0 hn0
        clear hr hfs hu hN HFS h0 hol
        rw [show ((0 : Nat) : Int) = 0 from rfl] at hmn hmx ⊢
        go_wp2_with fail
        go_ret
        exact ⟨_, ⟨_, rfl⟩, by first | (rw [HO.out]; exact HF.out) | exact HF.out, HX.out⟩
      · have hvc : (N : Int) ≤ (vc : Int) := by omega
        have HF := Lib.hid (HFS.out _ vc hu)
        rw [hu, hol]
        clear hr hfs hu HFS hN
        go_wp2_with fail
        go_ret
        exact ⟨_, ⟨_, rfl⟩, by first | (rw [HO.out]; exact HF.out) | exact HF.out, HX.out⟩

end Go.Proofs.YthhgpoihkmokcaaDoor
