/- Package treadmillref1: Has, Put. -/
import Derived.Test.YtmlobpapjfkbmaaPIns16
import Derived.Test.YtmlobpapjfkbmaaK7
namespace Go.Proofs.Ytmlobpapjfkbmaa
open Go.RowKit
set_option linter.unusedVariables false
set_option maxRecDepth 20000
set_option linter.unusedSimpArgs false

set_option maxHeartbeats 1600000 in
theorem has_any {w : World} {v : Value} {l : List Nat} (h : Rn w v l) (hn : l.length ≤ 100000) (x : Nat) :
    Calls Try.prog 30 #[v, .int .i64 (x : Nat)] w fun e w' => e = .returned (.bool (l.contains x)) ∧ w = w' := by
  obtain ⟨a, cap, rfl, -, hcap, hc⟩ := h
  obtain ⟨n, hl⟩ : ∃ n, l.length = n := ⟨_, rfl⟩
  rw [hl] at hc hcap hn ⊢
  have HC := Lib.hid hc
  have HL := Lib.hid hl
  obtain ⟨r, hr⟩ : ∃ r, l.contains x = r := ⟨_, rfl⟩
  rw [hr]
  have HR := Lib.hid hr
  clear hc hl hr
  go_enter Try.func30, Try.ntmps30
  go_wp2_with fail
  go_loop [5] (fun iv => ∃ i : Nat, i ≤ n ∧ iv = .int .i64 i ∧ ∀ j, j < i → l.getD j 0 ≠ x) (fun iv => n - (intOf iv).toNat)
  case atStart => exact ⟨0, by omega, rfl, fun j hj => absurd hj (Nat.not_lt_zero _)⟩
  case round =>
    obtain ⟨i, hi, rfl, hno⟩ := hrel
    have HN := Lib.hid hno
    clear hno
    by_cases hin : i < n
    · obtain ⟨g, off, rfl, g1, g2⟩ := HC.out i hin
      obtain ⟨y, hy⟩ : ∃ y, l.getD i 0 = y := ⟨_, rfl⟩
      rw [hy] at g2
      have HY := Lib.hid hy
      have i0 : (0 : Int) ≤ (i : Int) := by omega
      have i1 : (i : Int) < (n : Int) := by omega
      clear hy
      by_cases hxy : y = x
      · have hb : ((y : Int) == (x : Int)) = true := by simp [hxy]
        have hc : r = true := by
          rw [← HR.out]
          rw [List.contains_iff_mem, ← hxy, ← HY.out, List.getD_eq_getElem?_getD, List.getElem?_eq_getElem (by rw [HL.out]; exact hin)]
          exact List.getElem_mem _
        subst hc
        clear hxy
        go_wp2_with fail
        go_ret
        exact ⟨rfl, rfl⟩
      · have hb : ((y : Int) == (x : Int)) = false := by simp; omega
        have HXY := Lib.hid hxy
        clear hxy
        go_wp2_with fail
        go_round
        case rel => exact ⟨i + 1, by omega, by go_num, fun j hj => by
          by_cases e : j = i
          · rw [e, HY.out]; exact HXY.out
          · exact HN.out j (by omega)⟩
        case measure => simp [intOf]; omega
    · obtain rfl : i = n := by omega
      have i1 : ¬ (i : Int) < (i : Int) := by omega
      have hc : r = false := by
        rw [← HR.out]
        rw [← Bool.not_eq_true, List.contains_iff_mem]
        intro hm
        obtain ⟨j, hj, e⟩ := List.mem_iff_getElem.1 hm
        refine HN.out j (by rw [← HL.out]; exact hj) ?_
        rw [List.getD_eq_getElem?_getD, List.getElem?_eq_getElem hj]; exact e
      subst hc
      go_wp2_with fail
      go_ret
      exact ⟨rfl, rfl⟩

/-- A row that a drawn region makes. -/
structure CI (Y0 Y : World) (v : Value) (L : List Nat) : Prop where
  ex : Ex Y0 Y
  row : Y.ownsRow Y0.heap.size 3 1 v L.length (S12.ints L)
theorem CI.base {Y0 Y : World} {v : Value} {L : List Nat} (h : CI Y0 Y v L) (k : Nat) (hk : v.ownBlock = some k) : Y0.heap.size ≤ k ∧ k < Y.heap.size := World.ownsRow.lt h.row k hk
theorem CI.lit {Y0 Y : World} (h : Ex Y0 Y) : CI Y0 (Y.alloc (.cells #[] 3)) (.slice (some ⟨Y.heap.size, 0, none⟩) 0 0) [] :=
  ⟨h.trans (Ex.made Y _), rfl, .inr ⟨Y.heap.size, 0, #[], rfl, h.size, heap_alloc_new Y _, Nat.le_refl _, by unfold maxLen; omega, rfl, rfl⟩⟩
theorem CI.made {Y0 Y : World} {v : Value} {L : List Nat} (h : CI Y0 Y v L) (o : Obj) : CI Y0 (Y.alloc o) v L := ⟨h.ex.trans (Ex.made Y o), World.ownsRow.alloc h.row o⟩
theorem CI.new {Y0 Y : World} {v : Value} {L : List Nat} (h : CI Y0 Y v L) : v.ownBlock ≠ some Y.heap.size := fun e => by have := (h.base _ e).2; omega
theorem box_farI {Y Y' : World} {v : Value} {nb : Nat} {cs : Array Value} {t : TypeId} (h : Box Y nb cs t) (hne : v.ownBlock ≠ some nb) (hg : Y.grownBy Y' v.ownBlock) : Box Y' nb cs t :=
  (hg.block nb h.lt (fun e => hne e.symm)).trans h
theorem own_farI {Y : World} {v v' : Value} {nb : Nat} {cs : Array Value} {t : TypeId} (h : Box Y nb cs t) (hne : v.ownBlock ≠ some nb) (hat : v'.ownBlock = v.ownBlock ∨ v'.ownBlock = some Y.heap.size) : v'.ownBlock ≠ some nb := by
  rcases hat with e | e
  · rw [e]; exact hne
  · rw [e]; intro h'; have := h.lt; cases h'; omega
theorem rn_box1 {Y : World} {nb x : Nat} (h : Box Y nb #[.int .i64 (x : Nat)] 3) : Rn Y (.slice (some ⟨nb, 0, none⟩) 1 1) [x] :=
  ⟨some ⟨nb, 0, none⟩, 1, rfl, (fun e => by cases e), Nat.le_refl _, fun j hj => ⟨nb, 0, rfl, h.lt, by
    obtain rfl : j = 0 := by simpa using hj
    exact h.cell 0⟩⟩
theorem step_append_ci {ops : Array Oper} {o : Oper} {a : Act} {K : Act → World → Prop} {Q : Exit → Act → World → Prop} {E : Prop} {Y0 Y : World} {v : Value} {L M : List Nat} (hgd : o.guard = none) (s x : Operand)
    (ho : o.op = .call { callee := .builtin .append, args := #[s, x], argTypes := #[44, 44] }) (h : CI Y0 Y v L) (hs : a.eval s = v) (u : Value) (hx : a.eval x = u) (hM : Rn Y u M) (hb : L.length + M.length ≤ 1000000)
    (k : ∀ v' Y', CI Y0 Y' v' (L ++ M) → Y.grownBy Y' v.ownBlock → (v'.ownBlock = v.ownBlock ∨ v'.ownBlock = some Y.heap.size) → K (a.put o.dst v') Y') :
    if Region.wanted o (yielded ops a.tmps) = true then Oper.wp Try.prog o a Y K Q else E := by
  have hw : Region.wanted o (yielded ops a.tmps) = true := by simp [Region.wanted, hgd]
  rw [if_pos hw]
  obtain ⟨v', Y', hr, h2, h3, h4⟩ := run_append_ints h.row h.ex.size hM hb o.type
  have h5 : CI Y0 Y' v' (L ++ M) := ⟨Below.grown h.ex h3 h.ex.size (fun k hk => (h.base k hk).1), h2⟩
  unfold Oper.wp execOp
  simp only [ho, resolve, invoke, builtin, Sem.run_bind, Sem.run_pure, Result.andThen_ok, List.map_toArray, List.map_cons, List.map_nil, hs, hx, hr]
  exact k v' Y' h5 h3 h4

/-- What Put leaves: the same numbers, and x. -/
def PutR (w : World) (v : Value) (l : List Nat) (x : Nat) (e : Ending) (w' : World) : Prop := ∃ u L, e = .returned u ∧ (u = v ∨ ∀ b, u.ownBlock = some b → w.heap.size ≤ b) ∧ Rn w' u L ∧ (∀ y, y ∈ L ↔ y ∈ l ∨ y = x) ∧ L.length ≤ l.length + 1 ∧ Ex w w'
theorem rn_take {W : World} {a : Option Addr} {n cap i : Nat} {l : List Nat} (h : Rn W (.slice a n cap) l) (hn : l.length = n) (hi : i ≤ n) : Rn W (.slice a i cap) (l.take i) := by
  obtain ⟨a', cap', e, h1, h2, h3⟩ := h
  simp only [Value.slice.injEq] at e
  obtain ⟨rfl, -, rfl⟩ := e
  have hl : (l.take i).length = i := by rw [List.length_take]; omega
  refine ⟨a, cap, by rw [hl], h1, by rw [hl]; omega, fun j hj => ?_⟩
  rw [hl] at hj
  obtain ⟨g, off, e, hg, hc⟩ := h3 j (by omega)
  refine ⟨g, off, e, hg, ?_⟩
  rw [hc]; simp [List.getD_eq_getElem?_getD, List.getElem?_take, hj]
theorem rn_drop {W : World} {g off n cap i : Nat} {l : List Nat} (h : Rn W (.slice (some ⟨g, off, none⟩) n cap) l) (hn : l.length = n) (hi : i ≤ n) (ao : Option Addr) (hao : ao = if cap = i then some ⟨g, off, none⟩ else some ⟨g, off + i, none⟩) : Rn W (.slice ao (n - i) (cap - i)) (l.drop i) := by
  obtain ⟨a', cap', e, h1, h2, h3⟩ := h
  simp only [Value.slice.injEq] at e
  obtain ⟨rfl, -, rfl⟩ := e
  have hl : (l.drop i).length = n - i := by rw [List.length_drop, hn]
  refine ⟨ao, cap - i, by rw [hl], fun e => ?_, by rw [hl]; omega, fun j hj => ?_⟩
  · rw [hao] at e; split at e <;> cases e
  · rw [hl] at hj
    obtain ⟨g', off', e, hg, hc⟩ := h3 (i + j) (by omega)
    cases e
    refine ⟨g, off + i, ?_, hg, ?_⟩
    · rw [hao, if_neg (by omega)]
    · rw [Nat.add_assoc, hc]; simp [List.getD_eq_getElem?_getD, List.getElem?_drop]
theorem rn_drop_end {W : World} {a : Option Addr} {n cap : Nat} {l : List Nat} (h : Rn W (.slice a n cap) l) (hn : l.length = n) (ao : Option Addr) (hao : ao ≠ none) : Rn W (.slice ao 0 (cap - n)) (l.drop n) := by
  have hl : l.drop n = [] := List.drop_eq_nil_of_le (by omega)
  rw [hl]
  exact ⟨ao, cap - n, rfl, fun e => absurd e hao, Nat.zero_le _, fun j hj => absurd hj (Nat.not_lt_zero _)⟩
theorem put_mem (l : List Nat) (x i : Nat) (y : Nat) : y ∈ ([] ++ l.take i ++ [x] ++ l.drop i) ↔ y ∈ l ∨ y = x := by
  have := List.take_append_drop i l
  simp only [List.nil_append, List.mem_append, List.mem_singleton]
  constructor
  · rintro ((h | h) | h)
    · exact .inl (List.mem_of_mem_take h)
    · exact .inr h
    · exact .inl (List.mem_of_mem_drop h)
  · rintro (h | h)
    · rw [← this] at h
      rcases List.mem_append.1 h with h | h
      · exact .inl (.inl h)
      · exact .inr h
    · exact .inl (.inr h)

theorem put_end (l : List Nat) (x : Nat) (y : Nat) : y ∈ ([] ++ l ++ [x] ++ []) ↔ y ∈ l ∨ y = x := by simp

set_option maxRecDepth 20000 in
set_option maxHeartbeats 12800000 in
theorem put_any {w : World} {v : Value} {l : List Nat} (h : Rn w v l) (hn : l.length ≤ 100000) (x : Nat) :
    Calls Try.prog 31 #[v, .int .i64 (x : Nat)] w (PutR w v l x) := by
  have H := Lib.hid h
  obtain ⟨a, cap, rfl, hnone, hcap, hc⟩ := h
  obtain ⟨n, hl⟩ : ∃ n, l.length = n := ⟨_, rfl⟩
  rw [hl] at hc hcap hn H ⊢
  have HC := Lib.hid hc
  have HL := Lib.hid hl
  have HNn := Lib.hid hnone
  clear hc hl hnone
  go_enter Try.func31, Try.ntmps31
  go_wp2_with fail
  go_loop [5] (fun iv => ∃ i : Nat, i ≤ n ∧ iv = .int .i64 i) (fun iv => n - (intOf iv).toNat)
  case atStart => exact ⟨0, by omega, rfl⟩
  case round =>
    obtain ⟨i, hi, rfl⟩ := hrel
    by_cases hin : i < n
    · obtain ⟨g, off, rfl, g1, g2⟩ := HC.out i hin
      obtain ⟨y, hy⟩ : ∃ y, l.getD i 0 = y := ⟨_, rfl⟩
      rw [hy] at g2
      have HY := Lib.hid hy
      have i0 : (0 : Int) ≤ (i : Int) := by omega
      have i1 : (i : Int) < (n : Int) := by omega
      have d1 : decide (i < n) = true := decide_eq_true hin
      clear hy
      by_cases hlt : y < x
      · have hb : decide (y < x) = true := decide_eq_true hlt
        have hb2 : (y : Int) < (x : Int) := by omega
        go_wp2_with fail
        go_round
        case rel => exact ⟨i + 1, by omega, by go_num⟩
        case measure => simp [intOf]; omega
      · have hb : decide (y < x) = false := decide_eq_false hlt
        have hb2 : ¬ (y : Int) < (x : Int) := by omega
        by_cases hxy : y = x
        · have hq : ((y : Int) == (x : Int)) = true := by simp [hxy]
          have HM : Hid (x ∈ l) := Lib.hid (by
            rw [← hxy, ← HY.out, List.getD_eq_getElem?_getD, List.getElem?_eq_getElem (by rw [HL.out]; exact hin)]
            exact List.getElem_mem _)
          clear hxy
          go_wp2_with fail
          go_ret
          exact ⟨_, l, rfl, .inl rfl, H.out, fun q => ⟨.inl, fun hq => hq.elim id (fun e => e ▸ HM.out)⟩, by omega, Ex.refl _⟩
        · have hq : ((y : Int) == (x : Int)) = false := by simp; omega
          clear hxy hlt
          go_upto_region 6 with fail
          have NW1 := Lib.hid (fun W (hW : Ex w.drew W) => rn_take (H.out.ex ((ex_drw w).trans hW)) HL.out hi)
          obtain ⟨ao, hao⟩ : ∃ ao, (if cap = i then some (⟨g, off, none⟩ : Addr) else some ⟨g, off + i, none⟩) = ao := ⟨_, rfl⟩
          have NW3 := Lib.hid (fun W (hW : Ex w.drew W) => rn_drop (H.out.ex ((ex_drw w).trans hW)) HL.out hi ao hao.symm)
          have hic : (i : Int) ≤ (cap : Int) := by omega
          have hin2 : (i : Int) ≤ (n : Int) := by omega
          have HXX := Lib.hid (ex_drw w)
          refine wp_region_last (S := fun w' => Ex w.drew w') 12 13 (by kernel_rfl) (by kernel_rfl) (by kernel_rfl) (Ex.refl _) (fun hHeld => ?_)
          have XD0 := Lib.hid (Ex.refl w.drew)
          generalize w.drew = Y0 at *
          refine heldL_take (i := 1) (v := ?_) rfl (by kernel_rfl) (by kernel_rfl) (by kernel_rfl) (by kernel_rfl) (fun _ _ _ h => h) (Or.inl ⟨by rfl, ?_⟩) (by assumption) ?_
          rotate_left
          · intro w hSw; (try dsimp only at hSw); go_simp; try with_reducible rfl
          try simp only [Act.put, List.setIfInBounds_toArray, List.set_cons_zero, List.set_cons_succ]
          refine heldL_take (i := 2) (v := ?_) rfl (by kernel_rfl) (by kernel_rfl) (by kernel_rfl) (by kernel_rfl) (fun _ _ _ h => h) (Or.inl ⟨by rfl, ?_⟩) (by assumption) ?_
          rotate_left
          · intro w hSw; (try dsimp only at hSw); go_simp; try with_reducible rfl
          try simp only [Act.put, List.setIfInBounds_toArray, List.set_cons_zero, List.set_cons_succ]
          refine heldL_take (i := 3) (v := ?_) rfl (by kernel_rfl) (by kernel_rfl) (by kernel_rfl) (by kernel_rfl) (fun _ _ _ h => h) (Or.inl ⟨by rfl, ?_⟩) (by assumption) ?_
          rotate_left
          · intro w hSw; (try dsimp only at hSw); go_simp; try with_reducible rfl
          try simp only [Act.put, List.setIfInBounds_toArray, List.set_cons_zero, List.set_cons_succ]
          refine heldL_take (i := 5) (v := ?_) rfl (by kernel_rfl) (by kernel_rfl) (by kernel_rfl) (by kernel_rfl) (fun _ _ _ h => h) (Or.inl ⟨by rfl, ?_⟩) (by assumption) ?_
          rotate_left
          · intro w hSw; (try dsimp only at hSw); go_simp; try with_reducible rfl
          try simp only [Act.put, List.setIfInBounds_toArray, List.set_cons_zero, List.set_cons_succ]
          refine heldL_take (i := 8) (v := ?_) rfl (by kernel_rfl) (by kernel_rfl) (by kernel_rfl) (by kernel_rfl) (fun _ _ _ h => h) (Or.inl ⟨by rfl, ?_⟩) (by assumption) ?_
          rotate_left
          · intro w hSw; (try dsimp only at hSw); go_simp; try with_reducible rfl
          try simp only [Act.put, List.setIfInBounds_toArray, List.set_cons_zero, List.set_cons_succ]
          refine heldL_take (i := 9) (v := ?_) rfl (by kernel_rfl) (by kernel_rfl) (by kernel_rfl) (by kernel_rfl) (fun _ _ _ h => h) (Or.inl ⟨by rfl, ?_⟩) (by assumption) ?_
          rotate_left
          · intro w hSw; (try dsimp only at hSw); go_simp; try with_reducible rfl
          try simp only [Act.put, List.setIfInBounds_toArray, List.set_cons_zero, List.set_cons_succ]
          refine heldL_take (i := 10) (v := ?_) rfl (by kernel_rfl) (by kernel_rfl) (by kernel_rfl) (by kernel_rfl) (fun _ _ _ h => h) (Or.inl ⟨by rfl, ?_⟩) (by assumption) ?_
          rotate_left
          · intro w hSw; (try dsimp only at hSw); go_simp; try with_reducible rfl
          try simp only [Act.put, List.setIfInBounds_toArray, List.set_cons_zero, List.set_cons_succ]
          refine heldL_ready (rs := [0, 6]) (by kernel_rfl) (by simp) ?_
          refine AllL.cons rfl (fun K hK => ?_) (AllL.cons rfl (fun K hK => ?_) AllL.nil)
          go_simp
          have hx := (XD0.out.trans (Ex.made Y0 (.cells #[] 3)))
          refine hK.out _ _ (fun _ => hx) (fun _ => ?_)
          clear hK K
          try simp only [Act.put, List.setIfInBounds_toArray, List.set_cons_zero, List.set_cons_succ]
          have hc := CI.lit XD0.out
          obtain ⟨e0, he0⟩ : ∃ e0, Y0.heap.size = e0 := ⟨_, rfl⟩
          rw [he0] at hc ⊢
          obtain ⟨v0, hv0⟩ : ∃ v0, Value.slice (some ⟨e0, 0, none⟩) 0 0 = v0 := ⟨_, rfl⟩
          have hne : ∀ q, v0.ownBlock = some q → q = e0 := fun q hq => by rw [← hv0] at hq; cases hq; rfl
          rw [hv0] at hc ⊢
          obtain ⟨Y1, hY⟩ : ∃ Y, Y = Y0.alloc (.cells #[] 3) := ⟨_, rfl⟩
          rw [← hY] at hx hc ⊢
          have hHeld := hx
          have XD1 := Lib.hid hx
          have C1 := Lib.hid hc
          clear hY hx hc hv0 he0
          try clear hne
          refine heldL_ready (rs := [4, 6]) (by kernel_rfl) (by simp) ?_
          refine AllL.cons rfl (fun K hK => ?_) (AllL.cons rfl (fun K hK => ?_) AllL.nil)
          refine step_append_ci (M := l.take i) rfl (.tmp 33) (.tmp 36) rfl C1.out (by rfl) _ (by rfl) (NW1.out Y1 XD1.out) (by have := HL.out; simp <;> omega) ?_
          intro v1 Y2 hc hg hat
          refine hK.out _ _ (fun _ => hc.ex) (fun _ => ?_)
          clear hK K
          try simp only [Act.put, List.setIfInBounds_toArray, List.set_cons_zero, List.set_cons_succ]
          have hHeld := hc.ex
          have XD2 := Lib.hid hc.ex
          have C2 := Lib.hid hc
          clear hc hg hat
          refine heldL_ready (rs := [6]) (by kernel_rfl) (by simp) ?_
          refine AllL.cons rfl (fun K hK => ?_) AllL.nil
          go_simp
          have hx := (XD2.out.trans (Ex.made Y2 (.cells #[.int .i64 (x : Nat)] 3)))
          refine hK.out _ _ (fun _ => hx) (fun _ => ?_)
          clear hK K
          try simp only [Act.put, List.setIfInBounds_toArray, List.set_cons_zero, List.set_cons_succ]
          have hb := Box.fresh Y2 #[.int .i64 (x : Nat)] 3
          have hc := C2.out.made (.cells #[.int .i64 (x : Nat)] 3)
          have hne := C2.out.new
          obtain ⟨nb, hnb⟩ : ∃ b, Y2.heap.size = b := ⟨_, rfl⟩
          rw [hnb] at hb hne ⊢
          obtain ⟨Y3, hY⟩ : ∃ Y, Y = Y2.alloc (.cells #[.int .i64 (x : Nat)] 3) := ⟨_, rfl⟩
          rw [← hY] at hx hc hb ⊢
          have hHeld := hx
          have XD3 := Lib.hid hx
          have C3 := Lib.hid hc
          have B3 := Lib.hid hb
          have NE3 := Lib.hid hne
          clear hc hne
          clear hY hnb hx hb
          refine heldL_ready (rs := [7]) (by kernel_rfl) (by simp) ?_
          refine AllL.cons rfl (fun K hK => ?_) AllL.nil
          refine step_append_ci (M := [x]) rfl (.tmp 37) (.tmp 39) rfl C3.out (by rfl) _ (by rfl) (rn_box1 B3.out) (by have := HL.out; simp <;> omega) ?_
          intro v2 Y4 hc hg hat
          refine hK.out _ _ (fun _ => hc.ex) (fun _ => ?_)
          clear hK K
          try simp only [Act.put, List.setIfInBounds_toArray, List.set_cons_zero, List.set_cons_succ]
          have hHeld := hc.ex
          have XD4 := Lib.hid hc.ex
          have C4 := Lib.hid hc
          clear hc hg hat
          refine heldL_ready (rs := [11]) (by kernel_rfl) (by simp) ?_
          refine AllL.cons rfl (fun K hK => ?_) AllL.nil
          refine step_append_ci (M := l.drop i) rfl (.tmp 40) (.tmp 43) rfl C4.out (by rfl) _ (by rfl) (NW3.out Y4 XD4.out) (by have := HL.out; simp <;> omega) ?_
          intro v3 Y5 hc hg hat
          refine hK.out _ _ (fun _ => hc.ex) (fun _ => ?_)
          clear hK K
          try simp only [Act.put, List.setIfInBounds_toArray, List.set_cons_zero, List.set_cons_succ]
          have hHeld := hc.ex
          have XD5 := Lib.hid hc.ex
          have C5 := Lib.hid hc
          clear hc hg hat
          refine heldL_ready (rs := [12]) (by kernel_rfl) (by simp) ?_
          refine AllL.cons rfl (fun K hK => ?_) AllL.nil
          go_simp
          refine hK.out _ _ (fun h => (h rfl).elim) (fun _ => ?_)
          clear hK K
          try simp only [Act.put, List.setIfInBounds_toArray, List.set_cons_zero, List.set_cons_succ]
          refine heldL_done (by kernel_rfl) ?_ _
          have CE := Lib.hid C5.out
          rotate_left
          go_simp
          have hx := (XD1.out.trans (Ex.made Y1 (.cells #[.int .i64 (x : Nat)] 3)))
          refine hK.out _ _ (fun _ => hx) (fun _ => ?_)
          clear hK K
          try simp only [Act.put, List.setIfInBounds_toArray, List.set_cons_zero, List.set_cons_succ]
          have hb := Box.fresh Y1 #[.int .i64 (x : Nat)] 3
          have hc := C1.out.made (.cells #[.int .i64 (x : Nat)] 3)
          have hne := C1.out.new
          obtain ⟨nb, hnb⟩ : ∃ b, Y1.heap.size = b := ⟨_, rfl⟩
          rw [hnb] at hb hne ⊢
          obtain ⟨Y2, hY⟩ : ∃ Y, Y = Y1.alloc (.cells #[.int .i64 (x : Nat)] 3) := ⟨_, rfl⟩
          rw [← hY] at hx hc hb ⊢
          have hHeld := hx
          have XD2 := Lib.hid hx
          have C2 := Lib.hid hc
          have B2 := Lib.hid hb
          have NE2 := Lib.hid hne
          clear hc hne
          clear hY hnb hx hb
          refine heldL_ready (rs := [4]) (by kernel_rfl) (by simp) ?_
          refine AllL.cons rfl (fun K hK => ?_) AllL.nil
          refine step_append_ci (M := l.take i) rfl (.tmp 33) (.tmp 36) rfl C2.out (by rfl) _ (by rfl) (NW1.out Y2 XD2.out) (by have := HL.out; simp <;> omega) ?_
          intro v1 Y3 hc hg hat
          refine hK.out _ _ (fun _ => hc.ex) (fun _ => ?_)
          clear hK K
          try simp only [Act.put, List.setIfInBounds_toArray, List.set_cons_zero, List.set_cons_succ]
          have hHeld := hc.ex
          have XD3 := Lib.hid hc.ex
          have C3 := Lib.hid hc
          have B3 := Lib.hid (box_farI B2.out NE2.out hg)
          have NE3 := Lib.hid (own_farI B2.out NE2.out hat)
          clear hc hg hat
          refine heldL_ready (rs := [7]) (by kernel_rfl) (by simp) ?_
          refine AllL.cons rfl (fun K hK => ?_) AllL.nil
          refine step_append_ci (M := [x]) rfl (.tmp 37) (.tmp 39) rfl C3.out (by rfl) _ (by rfl) (rn_box1 B3.out) (by have := HL.out; simp <;> omega) ?_
          intro v2 Y4 hc hg hat
          refine hK.out _ _ (fun _ => hc.ex) (fun _ => ?_)
          clear hK K
          try simp only [Act.put, List.setIfInBounds_toArray, List.set_cons_zero, List.set_cons_succ]
          have hHeld := hc.ex
          have XD4 := Lib.hid hc.ex
          have C4 := Lib.hid hc
          clear hc hg hat
          refine heldL_ready (rs := [11]) (by kernel_rfl) (by simp) ?_
          refine AllL.cons rfl (fun K hK => ?_) AllL.nil
          refine step_append_ci (M := l.drop i) rfl (.tmp 40) (.tmp 43) rfl C4.out (by rfl) _ (by rfl) (NW3.out Y4 XD4.out) (by have := HL.out; simp <;> omega) ?_
          intro v3 Y5 hc hg hat
          refine hK.out _ _ (fun _ => hc.ex) (fun _ => ?_)
          clear hK K
          try simp only [Act.put, List.setIfInBounds_toArray, List.set_cons_zero, List.set_cons_succ]
          have hHeld := hc.ex
          have XD5 := Lib.hid hc.ex
          have C5 := Lib.hid hc
          clear hc hg hat
          refine heldL_ready (rs := [12]) (by kernel_rfl) (by simp) ?_
          refine AllL.cons rfl (fun K hK => ?_) AllL.nil
          go_simp
          refine hK.out _ _ (fun h => (h rfl).elim) (fun _ => ?_)
          clear hK K
          try simp only [Act.put, List.setIfInBounds_toArray, List.set_cons_zero, List.set_cons_succ]
          refine heldL_done (by kernel_rfl) ?_ _
          have CE := Lib.hid C5.out
          rotate_left
          go_simp
          have hx := (XD0.out.trans (Ex.made Y0 (.cells #[.int .i64 (x : Nat)] 3)))
          refine hK.out _ _ (fun _ => hx) (fun _ => ?_)
          clear hK K
          try simp only [Act.put, List.setIfInBounds_toArray, List.set_cons_zero, List.set_cons_succ]
          have hb := Box.fresh Y0 #[.int .i64 (x : Nat)] 3
          obtain ⟨nb, hnb⟩ : ∃ b, Y0.heap.size = b := ⟨_, rfl⟩
          rw [hnb] at hb ⊢
          obtain ⟨Y1, hY⟩ : ∃ Y, Y = Y0.alloc (.cells #[.int .i64 (x : Nat)] 3) := ⟨_, rfl⟩
          rw [← hY] at hx hb ⊢
          have hHeld := hx
          have XD1 := Lib.hid hx
          have B1 := Lib.hid hb
          clear hY hnb hx hb
          refine heldL_ready (rs := [0]) (by kernel_rfl) (by simp) ?_
          refine AllL.cons rfl (fun K hK => ?_) AllL.nil
          go_simp
          have hx := (XD1.out.trans (Ex.made Y1 (.cells #[] 3)))
          refine hK.out _ _ (fun _ => hx) (fun _ => ?_)
          clear hK K
          try simp only [Act.put, List.setIfInBounds_toArray, List.set_cons_zero, List.set_cons_succ]
          have hc := CI.lit XD1.out
          have hb := (B1.out.ex (Ex.made Y1 (.cells #[] 3)))
          have hlt := B1.out.lt
          obtain ⟨e0, he0⟩ : ∃ e0, Y1.heap.size = e0 := ⟨_, rfl⟩
          rw [he0] at hc hlt ⊢
          obtain ⟨v0, hv0⟩ : ∃ v0, Value.slice (some ⟨e0, 0, none⟩) 0 0 = v0 := ⟨_, rfl⟩
          have hne : ∀ q, v0.ownBlock = some q → q = e0 := fun q hq => by rw [← hv0] at hq; cases hq; rfl
          rw [hv0] at hc ⊢
          obtain ⟨Y2, hY⟩ : ∃ Y, Y = Y1.alloc (.cells #[] 3) := ⟨_, rfl⟩
          rw [← hY] at hx hc hb ⊢
          have hHeld := hx
          have XD2 := Lib.hid hx
          have C2 := Lib.hid hc
          have B2 := Lib.hid hb
          have NE2 : Hid (v0.ownBlock ≠ some nb) := Lib.hid (fun e => by have := hne nb e; omega)
          clear hb hlt
          clear hY hx hc hv0 he0
          try clear hne
          refine heldL_ready (rs := [4]) (by kernel_rfl) (by simp) ?_
          refine AllL.cons rfl (fun K hK => ?_) AllL.nil
          refine step_append_ci (M := l.take i) rfl (.tmp 33) (.tmp 36) rfl C2.out (by rfl) _ (by rfl) (NW1.out Y2 XD2.out) (by have := HL.out; simp <;> omega) ?_
          intro v1 Y3 hc hg hat
          refine hK.out _ _ (fun _ => hc.ex) (fun _ => ?_)
          clear hK K
          try simp only [Act.put, List.setIfInBounds_toArray, List.set_cons_zero, List.set_cons_succ]
          have hHeld := hc.ex
          have XD3 := Lib.hid hc.ex
          have C3 := Lib.hid hc
          have B3 := Lib.hid (box_farI B2.out NE2.out hg)
          have NE3 := Lib.hid (own_farI B2.out NE2.out hat)
          clear hc hg hat
          refine heldL_ready (rs := [7]) (by kernel_rfl) (by simp) ?_
          refine AllL.cons rfl (fun K hK => ?_) AllL.nil
          refine step_append_ci (M := [x]) rfl (.tmp 37) (.tmp 39) rfl C3.out (by rfl) _ (by rfl) (rn_box1 B3.out) (by have := HL.out; simp <;> omega) ?_
          intro v2 Y4 hc hg hat
          refine hK.out _ _ (fun _ => hc.ex) (fun _ => ?_)
          clear hK K
          try simp only [Act.put, List.setIfInBounds_toArray, List.set_cons_zero, List.set_cons_succ]
          have hHeld := hc.ex
          have XD4 := Lib.hid hc.ex
          have C4 := Lib.hid hc
          clear hc hg hat
          refine heldL_ready (rs := [11]) (by kernel_rfl) (by simp) ?_
          refine AllL.cons rfl (fun K hK => ?_) AllL.nil
          refine step_append_ci (M := l.drop i) rfl (.tmp 40) (.tmp 43) rfl C4.out (by rfl) _ (by rfl) (NW3.out Y4 XD4.out) (by have := HL.out; simp <;> omega) ?_
          intro v3 Y5 hc hg hat
          refine hK.out _ _ (fun _ => hc.ex) (fun _ => ?_)
          clear hK K
          try simp only [Act.put, List.setIfInBounds_toArray, List.set_cons_zero, List.set_cons_succ]
          have hHeld := hc.ex
          have XD5 := Lib.hid hc.ex
          have C5 := Lib.hid hc
          clear hc hg hat
          refine heldL_ready (rs := [12]) (by kernel_rfl) (by simp) ?_
          refine AllL.cons rfl (fun K hK => ?_) AllL.nil
          go_simp
          refine hK.out _ _ (fun h => (h rfl).elim) (fun _ => ?_)
          clear hK K
          try simp only [Act.put, List.setIfInBounds_toArray, List.set_cons_zero, List.set_cons_succ]
          refine heldL_done (by kernel_rfl) ?_ _
          have CE := Lib.hid C5.out
          rotate_left
          all_goals
            clear NW1 NW3
            go_wp2_with fail
            all_goals go_ret
            all_goals exact ⟨_, _, rfl, .inr (fun b hb => Nat.le_trans HXX.out.size (CE.out.base b hb).1), Rn.of CE.out.row, put_mem l x i, by have := HL.out; simp <;> omega, HXX.out.trans CE.out.ex⟩
    · obtain rfl : i = n := by omega
      have i1 : ¬ (i : Int) < (i : Int) := by omega
      have d1 : decide (i < i) = false := decide_eq_false (Nat.lt_irrefl _)
      cases a with
      | none =>
        obtain rfl := HNn.out rfl
        obtain rfl : i = 0 := by omega
        obtain rfl := List.eq_nil_of_length_eq_zero HL.out
        go_upto_region 6 with fail
        have NW1 : Hid (∀ W, Ex w.drew W → Rn W (.slice none 0 0) (([] : List Nat).take 0)) := Lib.hid (fun W hW => ⟨none, 0, rfl, fun _ => rfl, Nat.le_refl _, fun j hj => absurd hj (Nat.not_lt_zero _)⟩)
        have NW3 : Hid (∀ W, Ex w.drew W → Rn W (.slice none 0 0) (([] : List Nat).drop 0)) := Lib.hid (fun W hW => ⟨none, 0, rfl, fun _ => rfl, Nat.le_refl _, fun j hj => absurd hj (Nat.not_lt_zero _)⟩)
        have HXX := Lib.hid (ex_drw w)
        refine wp_region_last (S := fun w' => Ex w.drew w') 12 13 (by kernel_rfl) (by kernel_rfl) (by kernel_rfl) (Ex.refl _) (fun hHeld => ?_)
        have XD0 := Lib.hid (Ex.refl w.drew)
        generalize w.drew = Y0 at *
        refine heldL_take (i := 1) (v := ?_) rfl (by kernel_rfl) (by kernel_rfl) (by kernel_rfl) (by kernel_rfl) (fun _ _ _ h => h) (Or.inl ⟨by rfl, ?_⟩) (by assumption) ?_
        rotate_left
        · intro w hSw; (try dsimp only at hSw); go_simp; try with_reducible rfl
        try simp only [Act.put, List.setIfInBounds_toArray, List.set_cons_zero, List.set_cons_succ]
        refine heldL_take (i := 2) (v := ?_) rfl (by kernel_rfl) (by kernel_rfl) (by kernel_rfl) (by kernel_rfl) (fun _ _ _ h => h) (Or.inl ⟨by rfl, ?_⟩) (by assumption) ?_
        rotate_left
        · intro w hSw; (try dsimp only at hSw); go_simp; try with_reducible rfl
        try simp only [Act.put, List.setIfInBounds_toArray, List.set_cons_zero, List.set_cons_succ]
        refine heldL_take (i := 3) (v := ?_) rfl (by kernel_rfl) (by kernel_rfl) (by kernel_rfl) (by kernel_rfl) (fun _ _ _ h => h) (Or.inl ⟨by rfl, ?_⟩) (by assumption) ?_
        rotate_left
        · intro w hSw; (try dsimp only at hSw); go_simp; try with_reducible rfl
        try simp only [Act.put, List.setIfInBounds_toArray, List.set_cons_zero, List.set_cons_succ]
        refine heldL_take (i := 5) (v := ?_) rfl (by kernel_rfl) (by kernel_rfl) (by kernel_rfl) (by kernel_rfl) (fun _ _ _ h => h) (Or.inl ⟨by rfl, ?_⟩) (by assumption) ?_
        rotate_left
        · intro w hSw; (try dsimp only at hSw); go_simp; try with_reducible rfl
        try simp only [Act.put, List.setIfInBounds_toArray, List.set_cons_zero, List.set_cons_succ]
        refine heldL_take (i := 8) (v := ?_) rfl (by kernel_rfl) (by kernel_rfl) (by kernel_rfl) (by kernel_rfl) (fun _ _ _ h => h) (Or.inl ⟨by rfl, ?_⟩) (by assumption) ?_
        rotate_left
        · intro w hSw; (try dsimp only at hSw); go_simp; try with_reducible rfl
        try simp only [Act.put, List.setIfInBounds_toArray, List.set_cons_zero, List.set_cons_succ]
        refine heldL_take (i := 9) (v := ?_) rfl (by kernel_rfl) (by kernel_rfl) (by kernel_rfl) (by kernel_rfl) (fun _ _ _ h => h) (Or.inl ⟨by rfl, ?_⟩) (by assumption) ?_
        rotate_left
        · intro w hSw; (try dsimp only at hSw); go_simp; try with_reducible rfl
        try simp only [Act.put, List.setIfInBounds_toArray, List.set_cons_zero, List.set_cons_succ]
        refine heldL_take (i := 10) (v := ?_) rfl (by kernel_rfl) (by kernel_rfl) (by kernel_rfl) (by kernel_rfl) (fun _ _ _ h => h) (Or.inl ⟨by rfl, ?_⟩) (by assumption) ?_
        rotate_left
        · intro w hSw; (try dsimp only at hSw); go_simp; try with_reducible rfl
        try simp only [Act.put, List.setIfInBounds_toArray, List.set_cons_zero, List.set_cons_succ]
        refine heldL_ready (rs := [0, 6]) (by kernel_rfl) (by simp) ?_
        refine AllL.cons rfl (fun K hK => ?_) (AllL.cons rfl (fun K hK => ?_) AllL.nil)
        go_simp
        have hx := (XD0.out.trans (Ex.made Y0 (.cells #[] 3)))
        refine hK.out _ _ (fun _ => hx) (fun _ => ?_)
        clear hK K
        try simp only [Act.put, List.setIfInBounds_toArray, List.set_cons_zero, List.set_cons_succ]
        have hc := CI.lit XD0.out
        obtain ⟨e0, he0⟩ : ∃ e0, Y0.heap.size = e0 := ⟨_, rfl⟩
        rw [he0] at hc ⊢
        obtain ⟨v0, hv0⟩ : ∃ v0, Value.slice (some ⟨e0, 0, none⟩) 0 0 = v0 := ⟨_, rfl⟩
        have hne : ∀ q, v0.ownBlock = some q → q = e0 := fun q hq => by rw [← hv0] at hq; cases hq; rfl
        rw [hv0] at hc ⊢
        obtain ⟨Y1, hY⟩ : ∃ Y, Y = Y0.alloc (.cells #[] 3) := ⟨_, rfl⟩
        rw [← hY] at hx hc ⊢
        have hHeld := hx
        have XD1 := Lib.hid hx
        have C1 := Lib.hid hc
        clear hY hx hc hv0 he0
        try clear hne
        refine heldL_ready (rs := [4, 6]) (by kernel_rfl) (by simp) ?_
        refine AllL.cons rfl (fun K hK => ?_) (AllL.cons rfl (fun K hK => ?_) AllL.nil)
        refine step_append_ci (M := ([] : List Nat).take 0) rfl (.tmp 33) (.tmp 36) rfl C1.out (by rfl) _ (by rfl) (NW1.out Y1 XD1.out) (by have := HL.out; simp <;> omega) ?_
        intro v1 Y2 hc hg hat
        refine hK.out _ _ (fun _ => hc.ex) (fun _ => ?_)
        clear hK K
        try simp only [Act.put, List.setIfInBounds_toArray, List.set_cons_zero, List.set_cons_succ]
        have hHeld := hc.ex
        have XD2 := Lib.hid hc.ex
        have C2 := Lib.hid hc
        clear hc hg hat
        refine heldL_ready (rs := [6]) (by kernel_rfl) (by simp) ?_
        refine AllL.cons rfl (fun K hK => ?_) AllL.nil
        go_simp
        have hx := (XD2.out.trans (Ex.made Y2 (.cells #[.int .i64 (x : Nat)] 3)))
        refine hK.out _ _ (fun _ => hx) (fun _ => ?_)
        clear hK K
        try simp only [Act.put, List.setIfInBounds_toArray, List.set_cons_zero, List.set_cons_succ]
        have hb := Box.fresh Y2 #[.int .i64 (x : Nat)] 3
        have hc := C2.out.made (.cells #[.int .i64 (x : Nat)] 3)
        have hne := C2.out.new
        obtain ⟨nb, hnb⟩ : ∃ b, Y2.heap.size = b := ⟨_, rfl⟩
        rw [hnb] at hb hne ⊢
        obtain ⟨Y3, hY⟩ : ∃ Y, Y = Y2.alloc (.cells #[.int .i64 (x : Nat)] 3) := ⟨_, rfl⟩
        rw [← hY] at hx hc hb ⊢
        have hHeld := hx
        have XD3 := Lib.hid hx
        have C3 := Lib.hid hc
        have B3 := Lib.hid hb
        have NE3 := Lib.hid hne
        clear hc hne
        clear hY hnb hx hb
        refine heldL_ready (rs := [7]) (by kernel_rfl) (by simp) ?_
        refine AllL.cons rfl (fun K hK => ?_) AllL.nil
        refine step_append_ci (M := [x]) rfl (.tmp 37) (.tmp 39) rfl C3.out (by rfl) _ (by rfl) (rn_box1 B3.out) (by have := HL.out; simp <;> omega) ?_
        intro v2 Y4 hc hg hat
        refine hK.out _ _ (fun _ => hc.ex) (fun _ => ?_)
        clear hK K
        try simp only [Act.put, List.setIfInBounds_toArray, List.set_cons_zero, List.set_cons_succ]
        have hHeld := hc.ex
        have XD4 := Lib.hid hc.ex
        have C4 := Lib.hid hc
        clear hc hg hat
        refine heldL_ready (rs := [11]) (by kernel_rfl) (by simp) ?_
        refine AllL.cons rfl (fun K hK => ?_) AllL.nil
        refine step_append_ci (M := ([] : List Nat).drop 0) rfl (.tmp 40) (.tmp 43) rfl C4.out (by rfl) _ (by rfl) (NW3.out Y4 XD4.out) (by have := HL.out; simp <;> omega) ?_
        intro v3 Y5 hc hg hat
        refine hK.out _ _ (fun _ => hc.ex) (fun _ => ?_)
        clear hK K
        try simp only [Act.put, List.setIfInBounds_toArray, List.set_cons_zero, List.set_cons_succ]
        have hHeld := hc.ex
        have XD5 := Lib.hid hc.ex
        have C5 := Lib.hid hc
        clear hc hg hat
        refine heldL_ready (rs := [12]) (by kernel_rfl) (by simp) ?_
        refine AllL.cons rfl (fun K hK => ?_) AllL.nil
        go_simp
        refine hK.out _ _ (fun h => (h rfl).elim) (fun _ => ?_)
        clear hK K
        try simp only [Act.put, List.setIfInBounds_toArray, List.set_cons_zero, List.set_cons_succ]
        refine heldL_done (by kernel_rfl) ?_ _
        have CE := Lib.hid C5.out
        rotate_left
        go_simp
        have hx := (XD1.out.trans (Ex.made Y1 (.cells #[.int .i64 (x : Nat)] 3)))
        refine hK.out _ _ (fun _ => hx) (fun _ => ?_)
        clear hK K
        try simp only [Act.put, List.setIfInBounds_toArray, List.set_cons_zero, List.set_cons_succ]
        have hb := Box.fresh Y1 #[.int .i64 (x : Nat)] 3
        have hc := C1.out.made (.cells #[.int .i64 (x : Nat)] 3)
        have hne := C1.out.new
        obtain ⟨nb, hnb⟩ : ∃ b, Y1.heap.size = b := ⟨_, rfl⟩
        rw [hnb] at hb hne ⊢
        obtain ⟨Y2, hY⟩ : ∃ Y, Y = Y1.alloc (.cells #[.int .i64 (x : Nat)] 3) := ⟨_, rfl⟩
        rw [← hY] at hx hc hb ⊢
        have hHeld := hx
        have XD2 := Lib.hid hx
        have C2 := Lib.hid hc
        have B2 := Lib.hid hb
        have NE2 := Lib.hid hne
        clear hc hne
        clear hY hnb hx hb
        refine heldL_ready (rs := [4]) (by kernel_rfl) (by simp) ?_
        refine AllL.cons rfl (fun K hK => ?_) AllL.nil
        refine step_append_ci (M := ([] : List Nat).take 0) rfl (.tmp 33) (.tmp 36) rfl C2.out (by rfl) _ (by rfl) (NW1.out Y2 XD2.out) (by have := HL.out; simp <;> omega) ?_
        intro v1 Y3 hc hg hat
        refine hK.out _ _ (fun _ => hc.ex) (fun _ => ?_)
        clear hK K
        try simp only [Act.put, List.setIfInBounds_toArray, List.set_cons_zero, List.set_cons_succ]
        have hHeld := hc.ex
        have XD3 := Lib.hid hc.ex
        have C3 := Lib.hid hc
        have B3 := Lib.hid (box_farI B2.out NE2.out hg)
        have NE3 := Lib.hid (own_farI B2.out NE2.out hat)
        clear hc hg hat
        refine heldL_ready (rs := [7]) (by kernel_rfl) (by simp) ?_
        refine AllL.cons rfl (fun K hK => ?_) AllL.nil
        refine step_append_ci (M := [x]) rfl (.tmp 37) (.tmp 39) rfl C3.out (by rfl) _ (by rfl) (rn_box1 B3.out) (by have := HL.out; simp <;> omega) ?_
        intro v2 Y4 hc hg hat
        refine hK.out _ _ (fun _ => hc.ex) (fun _ => ?_)
        clear hK K
        try simp only [Act.put, List.setIfInBounds_toArray, List.set_cons_zero, List.set_cons_succ]
        have hHeld := hc.ex
        have XD4 := Lib.hid hc.ex
        have C4 := Lib.hid hc
        clear hc hg hat
        refine heldL_ready (rs := [11]) (by kernel_rfl) (by simp) ?_
        refine AllL.cons rfl (fun K hK => ?_) AllL.nil
        refine step_append_ci (M := ([] : List Nat).drop 0) rfl (.tmp 40) (.tmp 43) rfl C4.out (by rfl) _ (by rfl) (NW3.out Y4 XD4.out) (by have := HL.out; simp <;> omega) ?_
        intro v3 Y5 hc hg hat
        refine hK.out _ _ (fun _ => hc.ex) (fun _ => ?_)
        clear hK K
        try simp only [Act.put, List.setIfInBounds_toArray, List.set_cons_zero, List.set_cons_succ]
        have hHeld := hc.ex
        have XD5 := Lib.hid hc.ex
        have C5 := Lib.hid hc
        clear hc hg hat
        refine heldL_ready (rs := [12]) (by kernel_rfl) (by simp) ?_
        refine AllL.cons rfl (fun K hK => ?_) AllL.nil
        go_simp
        refine hK.out _ _ (fun h => (h rfl).elim) (fun _ => ?_)
        clear hK K
        try simp only [Act.put, List.setIfInBounds_toArray, List.set_cons_zero, List.set_cons_succ]
        refine heldL_done (by kernel_rfl) ?_ _
        have CE := Lib.hid C5.out
        rotate_left
        go_simp
        have hx := (XD0.out.trans (Ex.made Y0 (.cells #[.int .i64 (x : Nat)] 3)))
        refine hK.out _ _ (fun _ => hx) (fun _ => ?_)
        clear hK K
        try simp only [Act.put, List.setIfInBounds_toArray, List.set_cons_zero, List.set_cons_succ]
        have hb := Box.fresh Y0 #[.int .i64 (x : Nat)] 3
        obtain ⟨nb, hnb⟩ : ∃ b, Y0.heap.size = b := ⟨_, rfl⟩
        rw [hnb] at hb ⊢
        obtain ⟨Y1, hY⟩ : ∃ Y, Y = Y0.alloc (.cells #[.int .i64 (x : Nat)] 3) := ⟨_, rfl⟩
        rw [← hY] at hx hb ⊢
        have hHeld := hx
        have XD1 := Lib.hid hx
        have B1 := Lib.hid hb
        clear hY hnb hx hb
        refine heldL_ready (rs := [0]) (by kernel_rfl) (by simp) ?_
        refine AllL.cons rfl (fun K hK => ?_) AllL.nil
        go_simp
        have hx := (XD1.out.trans (Ex.made Y1 (.cells #[] 3)))
        refine hK.out _ _ (fun _ => hx) (fun _ => ?_)
        clear hK K
        try simp only [Act.put, List.setIfInBounds_toArray, List.set_cons_zero, List.set_cons_succ]
        have hc := CI.lit XD1.out
        have hb := (B1.out.ex (Ex.made Y1 (.cells #[] 3)))
        have hlt := B1.out.lt
        obtain ⟨e0, he0⟩ : ∃ e0, Y1.heap.size = e0 := ⟨_, rfl⟩
        rw [he0] at hc hlt ⊢
        obtain ⟨v0, hv0⟩ : ∃ v0, Value.slice (some ⟨e0, 0, none⟩) 0 0 = v0 := ⟨_, rfl⟩
        have hne : ∀ q, v0.ownBlock = some q → q = e0 := fun q hq => by rw [← hv0] at hq; cases hq; rfl
        rw [hv0] at hc ⊢
        obtain ⟨Y2, hY⟩ : ∃ Y, Y = Y1.alloc (.cells #[] 3) := ⟨_, rfl⟩
        rw [← hY] at hx hc hb ⊢
        have hHeld := hx
        have XD2 := Lib.hid hx
        have C2 := Lib.hid hc
        have B2 := Lib.hid hb
        have NE2 : Hid (v0.ownBlock ≠ some nb) := Lib.hid (fun e => by have := hne nb e; omega)
        clear hb hlt
        clear hY hx hc hv0 he0
        try clear hne
        refine heldL_ready (rs := [4]) (by kernel_rfl) (by simp) ?_
        refine AllL.cons rfl (fun K hK => ?_) AllL.nil
        refine step_append_ci (M := ([] : List Nat).take 0) rfl (.tmp 33) (.tmp 36) rfl C2.out (by rfl) _ (by rfl) (NW1.out Y2 XD2.out) (by have := HL.out; simp <;> omega) ?_
        intro v1 Y3 hc hg hat
        refine hK.out _ _ (fun _ => hc.ex) (fun _ => ?_)
        clear hK K
        try simp only [Act.put, List.setIfInBounds_toArray, List.set_cons_zero, List.set_cons_succ]
        have hHeld := hc.ex
        have XD3 := Lib.hid hc.ex
        have C3 := Lib.hid hc
        have B3 := Lib.hid (box_farI B2.out NE2.out hg)
        have NE3 := Lib.hid (own_farI B2.out NE2.out hat)
        clear hc hg hat
        refine heldL_ready (rs := [7]) (by kernel_rfl) (by simp) ?_
        refine AllL.cons rfl (fun K hK => ?_) AllL.nil
        refine step_append_ci (M := [x]) rfl (.tmp 37) (.tmp 39) rfl C3.out (by rfl) _ (by rfl) (rn_box1 B3.out) (by have := HL.out; simp <;> omega) ?_
        intro v2 Y4 hc hg hat
        refine hK.out _ _ (fun _ => hc.ex) (fun _ => ?_)
        clear hK K
        try simp only [Act.put, List.setIfInBounds_toArray, List.set_cons_zero, List.set_cons_succ]
        have hHeld := hc.ex
        have XD4 := Lib.hid hc.ex
        have C4 := Lib.hid hc
        clear hc hg hat
        refine heldL_ready (rs := [11]) (by kernel_rfl) (by simp) ?_
        refine AllL.cons rfl (fun K hK => ?_) AllL.nil
        refine step_append_ci (M := ([] : List Nat).drop 0) rfl (.tmp 40) (.tmp 43) rfl C4.out (by rfl) _ (by rfl) (NW3.out Y4 XD4.out) (by have := HL.out; simp <;> omega) ?_
        intro v3 Y5 hc hg hat
        refine hK.out _ _ (fun _ => hc.ex) (fun _ => ?_)
        clear hK K
        try simp only [Act.put, List.setIfInBounds_toArray, List.set_cons_zero, List.set_cons_succ]
        have hHeld := hc.ex
        have XD5 := Lib.hid hc.ex
        have C5 := Lib.hid hc
        clear hc hg hat
        refine heldL_ready (rs := [12]) (by kernel_rfl) (by simp) ?_
        refine AllL.cons rfl (fun K hK => ?_) AllL.nil
        go_simp
        refine hK.out _ _ (fun h => (h rfl).elim) (fun _ => ?_)
        clear hK K
        try simp only [Act.put, List.setIfInBounds_toArray, List.set_cons_zero, List.set_cons_succ]
        refine heldL_done (by kernel_rfl) ?_ _
        have CE := Lib.hid C5.out
        rotate_left
        all_goals
          clear NW1 NW3
          go_wp2_with fail
          all_goals go_ret
          all_goals exact ⟨_, _, rfl, .inr (fun b hb => Nat.le_trans HXX.out.size (CE.out.base b hb).1), Rn.of CE.out.row, put_mem ([] : List Nat) x 0, by have := HL.out; simp <;> omega, HXX.out.trans CE.out.ex⟩
      | some ad =>
        obtain ⟨g, off, spot⟩ := ad
        go_upto_region 6 with fail
        have NW1 := Lib.hid (fun W (hW : Ex w.drew W) => H.out.ex ((ex_drw w).trans hW))
        have NW3 := 0
        have hic : (i : Int) ≤ (cap : Int) := by omega
        have hin2 : (i : Int) ≤ (i : Int) := by omega
        have HXX := Lib.hid (ex_drw w)
        refine wp_region_last (S := fun w' => Ex w.drew w') 12 13 (by kernel_rfl) (by kernel_rfl) (by kernel_rfl) (Ex.refl _) (fun hHeld => ?_)
        have XD0 := Lib.hid (Ex.refl w.drew)
        generalize w.drew = Y0 at *
        refine heldL_take (i := 1) (v := ?_) rfl (by kernel_rfl) (by kernel_rfl) (by kernel_rfl) (by kernel_rfl) (fun _ _ _ h => h) (Or.inl ⟨by rfl, ?_⟩) (by assumption) ?_
        rotate_left
        · intro w hSw; (try dsimp only at hSw); go_simp; try with_reducible rfl
        try simp only [Act.put, List.setIfInBounds_toArray, List.set_cons_zero, List.set_cons_succ]
        refine heldL_take (i := 2) (v := ?_) rfl (by kernel_rfl) (by kernel_rfl) (by kernel_rfl) (by kernel_rfl) (fun _ _ _ h => h) (Or.inl ⟨by rfl, ?_⟩) (by assumption) ?_
        rotate_left
        · intro w hSw; (try dsimp only at hSw); go_simp; try with_reducible rfl
        try simp only [Act.put, List.setIfInBounds_toArray, List.set_cons_zero, List.set_cons_succ]
        refine heldL_take (i := 3) (v := ?_) rfl (by kernel_rfl) (by kernel_rfl) (by kernel_rfl) (by kernel_rfl) (fun _ _ _ h => h) (Or.inl ⟨by rfl, ?_⟩) (by assumption) ?_
        rotate_left
        · intro w hSw; (try dsimp only at hSw); go_simp; try with_reducible rfl
        try simp only [Act.put, List.setIfInBounds_toArray, List.set_cons_zero, List.set_cons_succ]
        refine heldL_take (i := 5) (v := ?_) rfl (by kernel_rfl) (by kernel_rfl) (by kernel_rfl) (by kernel_rfl) (fun _ _ _ h => h) (Or.inl ⟨by rfl, ?_⟩) (by assumption) ?_
        rotate_left
        · intro w hSw; (try dsimp only at hSw); go_simp; try with_reducible rfl
        try simp only [Act.put, List.setIfInBounds_toArray, List.set_cons_zero, List.set_cons_succ]
        refine heldL_take (i := 8) (v := ?_) rfl (by kernel_rfl) (by kernel_rfl) (by kernel_rfl) (by kernel_rfl) (fun _ _ _ h => h) (Or.inl ⟨by rfl, ?_⟩) (by assumption) ?_
        rotate_left
        · intro w hSw; (try dsimp only at hSw); go_simp; try with_reducible rfl
        try simp only [Act.put, List.setIfInBounds_toArray, List.set_cons_zero, List.set_cons_succ]
        refine heldL_take (i := 9) (v := ?_) rfl (by kernel_rfl) (by kernel_rfl) (by kernel_rfl) (by kernel_rfl) (fun _ _ _ h => h) (Or.inl ⟨by rfl, ?_⟩) (by assumption) ?_
        rotate_left
        · intro w hSw; (try dsimp only at hSw); go_simp; try with_reducible rfl
        try simp only [Act.put, List.setIfInBounds_toArray, List.set_cons_zero, List.set_cons_succ]
        refine heldL_take (i := 10) (v := ?_) rfl (by kernel_rfl) (by kernel_rfl) (by kernel_rfl) (by kernel_rfl) (fun _ _ _ h => h) (Or.inl ⟨by rfl, ?_⟩) (by assumption) ?_
        rotate_left
        · intro w hSw; (try dsimp only at hSw); go_simp; try with_reducible rfl
        try simp only [Act.put, List.setIfInBounds_toArray, List.set_cons_zero, List.set_cons_succ]
        refine heldL_ready (rs := [0, 6]) (by kernel_rfl) (by simp) ?_
        refine AllL.cons rfl (fun K hK => ?_) (AllL.cons rfl (fun K hK => ?_) AllL.nil)
        go_simp
        have hx := (XD0.out.trans (Ex.made Y0 (.cells #[] 3)))
        refine hK.out _ _ (fun _ => hx) (fun _ => ?_)
        clear hK K
        try simp only [Act.put, List.setIfInBounds_toArray, List.set_cons_zero, List.set_cons_succ]
        have hc := CI.lit XD0.out
        obtain ⟨e0, he0⟩ : ∃ e0, Y0.heap.size = e0 := ⟨_, rfl⟩
        rw [he0] at hc ⊢
        obtain ⟨v0, hv0⟩ : ∃ v0, Value.slice (some ⟨e0, 0, none⟩) 0 0 = v0 := ⟨_, rfl⟩
        have hne : ∀ q, v0.ownBlock = some q → q = e0 := fun q hq => by rw [← hv0] at hq; cases hq; rfl
        rw [hv0] at hc ⊢
        obtain ⟨Y1, hY⟩ : ∃ Y, Y = Y0.alloc (.cells #[] 3) := ⟨_, rfl⟩
        rw [← hY] at hx hc ⊢
        have hHeld := hx
        have XD1 := Lib.hid hx
        have C1 := Lib.hid hc
        clear hY hx hc hv0 he0
        try clear hne
        refine heldL_ready (rs := [4, 6]) (by kernel_rfl) (by simp) ?_
        refine AllL.cons rfl (fun K hK => ?_) (AllL.cons rfl (fun K hK => ?_) AllL.nil)
        refine step_append_ci (M := l) rfl (.tmp 33) (.tmp 36) rfl C1.out (by rfl) _ (by rfl) (NW1.out Y1 XD1.out) (by have := HL.out; simp <;> omega) ?_
        intro v1 Y2 hc hg hat
        refine hK.out _ _ (fun _ => hc.ex) (fun _ => ?_)
        clear hK K
        try simp only [Act.put, List.setIfInBounds_toArray, List.set_cons_zero, List.set_cons_succ]
        have hHeld := hc.ex
        have XD2 := Lib.hid hc.ex
        have C2 := Lib.hid hc
        clear hc hg hat
        refine heldL_ready (rs := [6]) (by kernel_rfl) (by simp) ?_
        refine AllL.cons rfl (fun K hK => ?_) AllL.nil
        go_simp
        have hx := (XD2.out.trans (Ex.made Y2 (.cells #[.int .i64 (x : Nat)] 3)))
        refine hK.out _ _ (fun _ => hx) (fun _ => ?_)
        clear hK K
        try simp only [Act.put, List.setIfInBounds_toArray, List.set_cons_zero, List.set_cons_succ]
        have hb := Box.fresh Y2 #[.int .i64 (x : Nat)] 3
        have hc := C2.out.made (.cells #[.int .i64 (x : Nat)] 3)
        have hne := C2.out.new
        obtain ⟨nb, hnb⟩ : ∃ b, Y2.heap.size = b := ⟨_, rfl⟩
        rw [hnb] at hb hne ⊢
        obtain ⟨Y3, hY⟩ : ∃ Y, Y = Y2.alloc (.cells #[.int .i64 (x : Nat)] 3) := ⟨_, rfl⟩
        rw [← hY] at hx hc hb ⊢
        have hHeld := hx
        have XD3 := Lib.hid hx
        have C3 := Lib.hid hc
        have B3 := Lib.hid hb
        have NE3 := Lib.hid hne
        clear hc hne
        clear hY hnb hx hb
        refine heldL_ready (rs := [7]) (by kernel_rfl) (by simp) ?_
        refine AllL.cons rfl (fun K hK => ?_) AllL.nil
        refine step_append_ci (M := [x]) rfl (.tmp 37) (.tmp 39) rfl C3.out (by rfl) _ (by rfl) (rn_box1 B3.out) (by have := HL.out; simp <;> omega) ?_
        intro v2 Y4 hc hg hat
        refine hK.out _ _ (fun _ => hc.ex) (fun _ => ?_)
        clear hK K
        try simp only [Act.put, List.setIfInBounds_toArray, List.set_cons_zero, List.set_cons_succ]
        have hHeld := hc.ex
        have XD4 := Lib.hid hc.ex
        have C4 := Lib.hid hc
        clear hc hg hat
        refine heldL_ready (rs := [11]) (by kernel_rfl) (by simp) ?_
        refine AllL.cons rfl (fun K hK => ?_) AllL.nil
        refine step_append_ci (M := []) rfl (.tmp 40) (.tmp 43) rfl C4.out (by rfl) _ (by rfl) ⟨_, _, rfl, (by intro e; first | cases e | (split at e <;> cases e) | rfl), Nat.zero_le _, fun j hj => absurd hj (Nat.not_lt_zero _)⟩ (by have := HL.out; simp <;> omega) ?_
        intro v3 Y5 hc hg hat
        refine hK.out _ _ (fun _ => hc.ex) (fun _ => ?_)
        clear hK K
        try simp only [Act.put, List.setIfInBounds_toArray, List.set_cons_zero, List.set_cons_succ]
        have hHeld := hc.ex
        have XD5 := Lib.hid hc.ex
        have C5 := Lib.hid hc
        clear hc hg hat
        refine heldL_ready (rs := [12]) (by kernel_rfl) (by simp) ?_
        refine AllL.cons rfl (fun K hK => ?_) AllL.nil
        go_simp
        refine hK.out _ _ (fun h => (h rfl).elim) (fun _ => ?_)
        clear hK K
        try simp only [Act.put, List.setIfInBounds_toArray, List.set_cons_zero, List.set_cons_succ]
        refine heldL_done (by kernel_rfl) ?_ _
        have CE := Lib.hid C5.out
        rotate_left
        go_simp
        have hx := (XD1.out.trans (Ex.made Y1 (.cells #[.int .i64 (x : Nat)] 3)))
        refine hK.out _ _ (fun _ => hx) (fun _ => ?_)
        clear hK K
        try simp only [Act.put, List.setIfInBounds_toArray, List.set_cons_zero, List.set_cons_succ]
        have hb := Box.fresh Y1 #[.int .i64 (x : Nat)] 3
        have hc := C1.out.made (.cells #[.int .i64 (x : Nat)] 3)
        have hne := C1.out.new
        obtain ⟨nb, hnb⟩ : ∃ b, Y1.heap.size = b := ⟨_, rfl⟩
        rw [hnb] at hb hne ⊢
        obtain ⟨Y2, hY⟩ : ∃ Y, Y = Y1.alloc (.cells #[.int .i64 (x : Nat)] 3) := ⟨_, rfl⟩
        rw [← hY] at hx hc hb ⊢
        have hHeld := hx
        have XD2 := Lib.hid hx
        have C2 := Lib.hid hc
        have B2 := Lib.hid hb
        have NE2 := Lib.hid hne
        clear hc hne
        clear hY hnb hx hb
        refine heldL_ready (rs := [4]) (by kernel_rfl) (by simp) ?_
        refine AllL.cons rfl (fun K hK => ?_) AllL.nil
        refine step_append_ci (M := l) rfl (.tmp 33) (.tmp 36) rfl C2.out (by rfl) _ (by rfl) (NW1.out Y2 XD2.out) (by have := HL.out; simp <;> omega) ?_
        intro v1 Y3 hc hg hat
        refine hK.out _ _ (fun _ => hc.ex) (fun _ => ?_)
        clear hK K
        try simp only [Act.put, List.setIfInBounds_toArray, List.set_cons_zero, List.set_cons_succ]
        have hHeld := hc.ex
        have XD3 := Lib.hid hc.ex
        have C3 := Lib.hid hc
        have B3 := Lib.hid (box_farI B2.out NE2.out hg)
        have NE3 := Lib.hid (own_farI B2.out NE2.out hat)
        clear hc hg hat
        refine heldL_ready (rs := [7]) (by kernel_rfl) (by simp) ?_
        refine AllL.cons rfl (fun K hK => ?_) AllL.nil
        refine step_append_ci (M := [x]) rfl (.tmp 37) (.tmp 39) rfl C3.out (by rfl) _ (by rfl) (rn_box1 B3.out) (by have := HL.out; simp <;> omega) ?_
        intro v2 Y4 hc hg hat
        refine hK.out _ _ (fun _ => hc.ex) (fun _ => ?_)
        clear hK K
        try simp only [Act.put, List.setIfInBounds_toArray, List.set_cons_zero, List.set_cons_succ]
        have hHeld := hc.ex
        have XD4 := Lib.hid hc.ex
        have C4 := Lib.hid hc
        clear hc hg hat
        refine heldL_ready (rs := [11]) (by kernel_rfl) (by simp) ?_
        refine AllL.cons rfl (fun K hK => ?_) AllL.nil
        refine step_append_ci (M := []) rfl (.tmp 40) (.tmp 43) rfl C4.out (by rfl) _ (by rfl) ⟨_, _, rfl, (by intro e; first | cases e | (split at e <;> cases e) | rfl), Nat.zero_le _, fun j hj => absurd hj (Nat.not_lt_zero _)⟩ (by have := HL.out; simp <;> omega) ?_
        intro v3 Y5 hc hg hat
        refine hK.out _ _ (fun _ => hc.ex) (fun _ => ?_)
        clear hK K
        try simp only [Act.put, List.setIfInBounds_toArray, List.set_cons_zero, List.set_cons_succ]
        have hHeld := hc.ex
        have XD5 := Lib.hid hc.ex
        have C5 := Lib.hid hc
        clear hc hg hat
        refine heldL_ready (rs := [12]) (by kernel_rfl) (by simp) ?_
        refine AllL.cons rfl (fun K hK => ?_) AllL.nil
        go_simp
        refine hK.out _ _ (fun h => (h rfl).elim) (fun _ => ?_)
        clear hK K
        try simp only [Act.put, List.setIfInBounds_toArray, List.set_cons_zero, List.set_cons_succ]
        refine heldL_done (by kernel_rfl) ?_ _
        have CE := Lib.hid C5.out
        rotate_left
        go_simp
        have hx := (XD0.out.trans (Ex.made Y0 (.cells #[.int .i64 (x : Nat)] 3)))
        refine hK.out _ _ (fun _ => hx) (fun _ => ?_)
        clear hK K
        try simp only [Act.put, List.setIfInBounds_toArray, List.set_cons_zero, List.set_cons_succ]
        have hb := Box.fresh Y0 #[.int .i64 (x : Nat)] 3
        obtain ⟨nb, hnb⟩ : ∃ b, Y0.heap.size = b := ⟨_, rfl⟩
        rw [hnb] at hb ⊢
        obtain ⟨Y1, hY⟩ : ∃ Y, Y = Y0.alloc (.cells #[.int .i64 (x : Nat)] 3) := ⟨_, rfl⟩
        rw [← hY] at hx hb ⊢
        have hHeld := hx
        have XD1 := Lib.hid hx
        have B1 := Lib.hid hb
        clear hY hnb hx hb
        refine heldL_ready (rs := [0]) (by kernel_rfl) (by simp) ?_
        refine AllL.cons rfl (fun K hK => ?_) AllL.nil
        go_simp
        have hx := (XD1.out.trans (Ex.made Y1 (.cells #[] 3)))
        refine hK.out _ _ (fun _ => hx) (fun _ => ?_)
        clear hK K
        try simp only [Act.put, List.setIfInBounds_toArray, List.set_cons_zero, List.set_cons_succ]
        have hc := CI.lit XD1.out
        have hb := (B1.out.ex (Ex.made Y1 (.cells #[] 3)))
        have hlt := B1.out.lt
        obtain ⟨e0, he0⟩ : ∃ e0, Y1.heap.size = e0 := ⟨_, rfl⟩
        rw [he0] at hc hlt ⊢
        obtain ⟨v0, hv0⟩ : ∃ v0, Value.slice (some ⟨e0, 0, none⟩) 0 0 = v0 := ⟨_, rfl⟩
        have hne : ∀ q, v0.ownBlock = some q → q = e0 := fun q hq => by rw [← hv0] at hq; cases hq; rfl
        rw [hv0] at hc ⊢
        obtain ⟨Y2, hY⟩ : ∃ Y, Y = Y1.alloc (.cells #[] 3) := ⟨_, rfl⟩
        rw [← hY] at hx hc hb ⊢
        have hHeld := hx
        have XD2 := Lib.hid hx
        have C2 := Lib.hid hc
        have B2 := Lib.hid hb
        have NE2 : Hid (v0.ownBlock ≠ some nb) := Lib.hid (fun e => by have := hne nb e; omega)
        clear hb hlt
        clear hY hx hc hv0 he0
        try clear hne
        refine heldL_ready (rs := [4]) (by kernel_rfl) (by simp) ?_
        refine AllL.cons rfl (fun K hK => ?_) AllL.nil
        refine step_append_ci (M := l) rfl (.tmp 33) (.tmp 36) rfl C2.out (by rfl) _ (by rfl) (NW1.out Y2 XD2.out) (by have := HL.out; simp <;> omega) ?_
        intro v1 Y3 hc hg hat
        refine hK.out _ _ (fun _ => hc.ex) (fun _ => ?_)
        clear hK K
        try simp only [Act.put, List.setIfInBounds_toArray, List.set_cons_zero, List.set_cons_succ]
        have hHeld := hc.ex
        have XD3 := Lib.hid hc.ex
        have C3 := Lib.hid hc
        have B3 := Lib.hid (box_farI B2.out NE2.out hg)
        have NE3 := Lib.hid (own_farI B2.out NE2.out hat)
        clear hc hg hat
        refine heldL_ready (rs := [7]) (by kernel_rfl) (by simp) ?_
        refine AllL.cons rfl (fun K hK => ?_) AllL.nil
        refine step_append_ci (M := [x]) rfl (.tmp 37) (.tmp 39) rfl C3.out (by rfl) _ (by rfl) (rn_box1 B3.out) (by have := HL.out; simp <;> omega) ?_
        intro v2 Y4 hc hg hat
        refine hK.out _ _ (fun _ => hc.ex) (fun _ => ?_)
        clear hK K
        try simp only [Act.put, List.setIfInBounds_toArray, List.set_cons_zero, List.set_cons_succ]
        have hHeld := hc.ex
        have XD4 := Lib.hid hc.ex
        have C4 := Lib.hid hc
        clear hc hg hat
        refine heldL_ready (rs := [11]) (by kernel_rfl) (by simp) ?_
        refine AllL.cons rfl (fun K hK => ?_) AllL.nil
        refine step_append_ci (M := []) rfl (.tmp 40) (.tmp 43) rfl C4.out (by rfl) _ (by rfl) ⟨_, _, rfl, (by intro e; first | cases e | (split at e <;> cases e) | rfl), Nat.zero_le _, fun j hj => absurd hj (Nat.not_lt_zero _)⟩ (by have := HL.out; simp <;> omega) ?_
        intro v3 Y5 hc hg hat
        refine hK.out _ _ (fun _ => hc.ex) (fun _ => ?_)
        clear hK K
        try simp only [Act.put, List.setIfInBounds_toArray, List.set_cons_zero, List.set_cons_succ]
        have hHeld := hc.ex
        have XD5 := Lib.hid hc.ex
        have C5 := Lib.hid hc
        clear hc hg hat
        refine heldL_ready (rs := [12]) (by kernel_rfl) (by simp) ?_
        refine AllL.cons rfl (fun K hK => ?_) AllL.nil
        go_simp
        refine hK.out _ _ (fun h => (h rfl).elim) (fun _ => ?_)
        clear hK K
        try simp only [Act.put, List.setIfInBounds_toArray, List.set_cons_zero, List.set_cons_succ]
        refine heldL_done (by kernel_rfl) ?_ _
        have CE := Lib.hid C5.out
        rotate_left
        all_goals
          clear NW1 NW3
          go_wp2_with fail
          all_goals go_ret
          all_goals exact ⟨_, _, rfl, .inr (fun b hb => Nat.le_trans HXX.out.size (CE.out.base b hb).1), Rn.of CE.out.row, put_end l x, by have := HL.out; simp <;> omega, HXX.out.trans CE.out.ex⟩

end Go.Proofs.Ytmlobpapjfkbmaa
