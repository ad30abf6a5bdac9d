/- Package timer: Due. -/
import Derived.Test.YtofdlbnlfeocoaaTimers13
namespace Go.Proofs.Ytofdlbnlfeocoaa
open Go.RowKit
set_option linter.unusedVariables false

theorem info_int : (Try.prog.info? 3).map (fun i => (i.zero, i.size, i.bytes)) = some (some (.int .i64 0), 1, 8) := by kernel_rfl
def intsZ (l : List Int) : List Value := l.map fun n : Int => Value.int .i64 n

def lenOf : Value → Nat
  | .slice _ n _ => n
  | _ => 0
/-- What is left and what is told. -/
def DueIs (w : World) (base b : Nat) (k : Int) (o : Value) (r : List Int × List (Int × Int × Int)) (v : Value) (B : Nat) (w' : World) : Prop :=
  (∃ u, Sv w' base b k u r.2 ∧ (∀ g, u.ownBlock = some g → g < w'.heap.size) ∧ u.ownBlock = o.ownBlock) ∧ w'.ownsRow B 3 1 v r.1.length (intsZ r.1) ∧ Chg (OB b o) w w'

set_option maxRecDepth 20000 in
set_option maxHeartbeats 1600000 in
theorem due_nil (w : World) (now : Int) :
    Calls Try.prog 11 #[.pointer none, .int .i64 now] w fun e w' => e = .returned (.slice none 0 0) ∧ Ex w w' := by
  go_enter Try.func11, Try.ntmps11
  go_wp2_with fail
  refine wp_loop_rounds 1 ?_; rw [rounds_succ]
  go_wp2_with fail
  refine (tlen_nil w).mono ?_
  rintro e w' ⟨rfl, rfl⟩
  go_wp2_with fail
  go_ret
  exact ⟨rfl, Ex.refl _⟩

theorem dueL_go {f n : Nat} {now : Int} {m : List (Int × Int × Int)} (hn : m.length = n + 1) (hf : 0 < f) (h : (m.getD 0 zz).1 ≤ now) :
    dueL f now m = (((popL m n).getD n zz).2.1 :: (dueL (f - 1) now ((popL m n).take n)).1, (dueL (f - 1) now ((popL m n).take n)).2) := by
  cases f with
  | zero => omega
  | succ f =>
    rw [dueL, if_pos ⟨by omega, h⟩, show m.length - 1 = n by omega]
    rfl
theorem row_base {w : World} {base : Nat} {e : TypeId} {size : Nat} {v : Value} {n : Nat} {xs : List Value} (h : w.ownsRow base e size v n xs) (i : Nat) (hi : v.ownBlock = some i) : base ≤ i := by
  rcases row_shape h with ⟨h1, -, -⟩ | ⟨g, cap, h1, h2, -⟩
  · subst h1; cases hi
  · subst h1; cases hi; exact h2
theorem Sv.chg {w w' : World} {k : Int} {base b : Nat} {v : Value} {l : List (Int × Int × Int)} {F : Nat → Prop} (h : Sv w base b k v l) (x : Chg F w w') (h1 : ¬ F b) (h2 : ∀ g, v.ownBlock = some g → ¬ F g) : Sv w' base b k v l := by
  have hb : w'.heap[b]? = w.heap[b]? := x.block b (by have := h.bl; have := h.wl; omega) h1
  refine ⟨?_, row_chg h.row x h2, ?_, ?_, ?_, h.bl, Nat.le_trans h.wl x.size⟩
  · have := h.cell
    simp only [World.cell?, hb] at this ⊢
    exact this
  · have := h.soft
    simp only [World.frozen?, hb] at this ⊢
    exact this
  · have := h.mkd
    simp only [World.cell?, hb] at this ⊢
    exact this
  · have := h.msoft
    simp only [World.frozen?, hb] at this ⊢
    exact this

set_option maxRecDepth 20000 in
set_option maxHeartbeats 3200000 in
theorem due_any {w : World} {k : Int} {base b : Nat} {v : Value} {l : List (Int × Int × Int)} (h : Sv w base b k v l) (hv : ∀ g, v.ownBlock = some g → g < w.heap.size) (now : Int) (hn : l.length < 900) :
    Calls Try.prog 11 #[.pointer (some ⟨b, 0, none⟩), .int .i64 now] w fun e w' => ∃ u, e = .returned u ∧ DueIs w base b k v (dueL (l.length + 1) now l) u w.heap.size w' := by
  have H := Lib.hid h
  have HV := Lib.hid hv
  clear h hv
  go_enter Try.func11, Try.ntmps11
  go_wp2_with fail
  go_loopw [5] (fun ov wr => ∃ (f : Nat) (m : List (Int × Int × Int)) (xs : List Int) (u : Value), m.length < f ∧ xs.length + m.length = l.length ∧ Sv wr base b k u m ∧ (∀ g, u.ownBlock = some g → g < wr.heap.size) ∧ u.ownBlock = v.ownBlock ∧ wr.ownsRow w.heap.size 3 1 ov xs.length (intsZ xs) ∧ Chg (OB b v) w wr ∧
    (xs ++ (dueL f now m).1, (dueL f now m).2) = dueL (l.length + 1) now l) (fun ov _ => l.length - lenOf ov)
  case atStart => exact ⟨l.length + 1, l, [], v, by omega, by simp, H.out, HV.out, rfl, World.ownsRow_nil _ _ _ _, Chg.refl _ _, by simp⟩
  case round =>
    obtain ⟨f, m, xs, u, hf, hlen, hs, hu, hne, hx, hc, he⟩ := hrel
    obtain ⟨a, cap, rfl⟩ : ∃ a cap, u = .slice a m.length cap := by
      rcases row_shape hs.row with ⟨h1, h2, -⟩ | ⟨g, cap, h1, -⟩
      · exact ⟨none, 0, by rw [h1, h2]⟩
      · exact ⟨_, cap, h1⟩
    have c0 := hs.cell
    have HS := Lib.hid hs
    have HU := Lib.hid hu
    have HX := Lib.hid hx
    have HC := Lib.hid hc
    have HE := Lib.hid he
    have HNE := Lib.hid hne
    have fin : ¬ (0 < m.length ∧ (m.getD 0 zz).1 ≤ now) → DueIs w base b k v (dueL (l.length + 1) now l) u5 w.heap.size wr := by
      intro h
      rw [← HE.out, dueL_stop h]
      simp only [List.append_nil]
      exact ⟨⟨_, HS.out, HU.out, HNE.out⟩, HX.out, HC.out⟩
    have FIN := Lib.hid fin
    clear hs hu hx hc he fin hne
    by_cases h0 : m.length = 0
    · have K1 := Lib.hid (tlen_any HS.out)
      rw [h0] at K1
      go_wp2_with fail
      refine K1.out.mono ?_
      rintro e w' ⟨rfl, rfl⟩
      go_wp2_with fail
      go_ret
      exact ⟨_, rfl, FIN.out (by omega)⟩
    · obtain ⟨n, hn'⟩ : ∃ n, m.length = n + 1 := ⟨m.length - 1, by omega⟩
      have hn2 := hn'
      rw [hn'] at c0 HS
      obtain ⟨g, rfl⟩ : ∃ g, a = some ⟨g, 0, none⟩ := by
        rcases row_shape HS.out.row with ⟨h1, -⟩ | ⟨g, cap', h1, -⟩
        · simp at h1
        · simp only [Value.slice.injEq] at h1
          exact ⟨g, h1.1⟩
      have hr : Row3 wr base (.slice (some ⟨g, 0, none⟩) m.length cap) m := by rw [hn2]; exact HS.out.row
      obtain ⟨a0, a1, a2⟩ := cells3_at m 0 (by omega)
      have x0 := hr.cell _ _ a0
      rw [Nat.zero_mul] at x0
      obtain ⟨t, ht⟩ : ∃ t, (m.getD 0 zz).1 = t := ⟨_, rfl⟩
      have e0 : m[0].1 = t := by rw [← ht]; simp [hn2]
      rw [e0] at x0
      have HT := Lib.hid ht
      have HN := Lib.hid hn2
      clear hr a0 a1 a2 ht e0 hn2 hn' h0
      by_cases hle : t ≤ now
      · have K1 := Lib.hid (tlen_any HS.out)
        have e1 : decide (t ≤ now) = true := by simpa using hle
        have e2 : (0 : Int) < ((n + 1 : Nat) : Int) := by omega
        obtain ⟨p, hp⟩ : ∃ p, (popL m n).getD n zz = p := ⟨_, rfl⟩
        have K2 := Lib.hid (hpop_any n HS.out HN.out (HU.out g (by rfl)) (by have := HN.out; omega) p hp)
        have HP := Lib.hid hp
        clear hp
        obtain ⟨p1, p2, p3⟩ := p
        have hta : ∀ (w : World) (x : Value), (Instr.typeAssert (.iface 57 x) 20 57 false).run Try.prog w = .ok x w := fun _ _ => by kernel_rfl
        have hf1 : ∀ (w : World), (Instr.field 57 (.agg #[.int .i64 p1, .int .i64 p2, .int .i64 p3]) 0).run Try.prog w = .ok (.agg #[.int .i64 p1, .int .i64 p2]) w := fun _ => by kernel_rfl
        have hf2 : ∀ (w : World), (Instr.field 45 (.agg #[.int .i64 p1, .int .i64 p2]) 1).run Try.prog w = .ok (.int .i64 p2) w := fun _ => by kernel_rfl
        go_wp2_with fail
        refine K1.out.mono ?_
        rintro e w' ⟨rfl, rfl⟩
        go_wp2_with fail
        refine K2.out.mono ?_
        rintro e w2 ⟨rfl, h2, hg2, hc2⟩
        have H2 := Lib.hid h2
        have G2 := Lib.hid hg2
        have C2 := Lib.hid hc2
        clear h2 hg2 hc2
        have htl : ((popL m n).take n).length = n := by
          rcases row_shape H2.out.row with ⟨h1, -⟩ | ⟨g2, cap2, h1, -⟩
          · simp at h1
          · simp only [Value.slice.injEq] at h1
            exact h1.2.1.symm
        have hgv : v.ownBlock = some g := HNE.out.symm
        have hgw : g < w.heap.size := HV.out g hgv
        have hbw : b < w.heap.size := by have := H.out.bl; have := H.out.wl; omega
        have HO : Hid (w2.ownsRow w.heap.size 3 1 u5 xs.length (intsZ xs)) := Lib.hid (row_chg HX.out C2.out (fun g' hg' hh => by
          have := row_base HX.out g' hg'
          rcases hh with rfl | rfl <;> omega))
        have hws : w.heap.size ≤ w2.heap.size := Nat.le_trans HC.out.size C2.out.size
        have HGV := Lib.hid hgv
        clear hgv
        obtain ⟨i0, hi, hz0, hz1, hz2⟩ := info_parts info_int
        have hxl : xs.length < 900 := by omega
        go_wp2_with (at_builtin; refine wpList_append_mine _ rfl (.tmp 21) (.tmp 30) 22 rfl w.heap.size 3 i0 (.int .i64 0) 1 8 Try.underlying22 hi hz0 hz1 hz2 rfl (by decide) _ _ _ rfl (HO.out.alloc _) ⟨w2.heap.size, 0, none⟩ 1 1 [.int .i64 p2] rfl rfl (one_new _ _ _) (one_cell rfl) (by unfold maxLen; omega) (by omega) (row_alloc_base w2 _ hws) (by omega) ?_)
        intro g' cap' w3 hown hgrow hor hbg hlt' hc1 hc2
        have HO3 := Lib.hid hown
        have HOR := Lib.hid hor
        have C3 : Hid (Chg (fun i => u5.ownBlock = some i) w2 w3) := Lib.hid (Chg.trans ((Ex.made w2 _).chg (fun i => u5.ownBlock = some i)) (Chg.grown (F := fun i => u5.ownBlock = some i) hgrow (fun i hi => hi)) (fun _ _ h => h))
        clear hown hgrow hor
        go_wp2_with fail
        go_roundw
        case rel =>
          refine ⟨f - 1, (popL m n).take n, xs ++ [p2], .slice (some ⟨g, 0, none⟩) n cap, ?_, ?_, H2.out.chg C3.out ?_ ?_, ?_, HGV.out.symm, ?_, ?_, ?_⟩
          · have := List.length_take_le n (popL m n); have := HN.out; omega
          · have := HN.out; simp only [List.length_append, List.length_singleton]; omega
          · intro hb
            have := row_base HX.out b hb
            omega
          · intro g1 hg1 hg2
            cases hg1
            have := row_base HX.out g hg2
            omega
          · intro g1 hg1
            cases hg1
            exact Nat.lt_of_lt_of_le G2.out C3.out.size
          · rw [List.length_append, show intsZ (xs ++ [p2]) = intsZ xs ++ [.int .i64 p2] by simp [intsZ]]
            exact HO3.out
          · refine (HC.out.trans C2.out (fun i _ hi => ?_)).trans C3.out (fun i hlt hi => ?_)
            · rcases hi with rfl | rfl
              · exact .inl rfl
              · exact .inr HGV.out
            · have := row_base HX.out i hi
              omega
          · rw [← HE.out]
            have := dueL_go (f := f) (now := now) (m := m) (n := n) HN.out (by have := HN.out; omega) (by rw [HT.out]; exact hle)
            rw [this, HP.out]
            simp
        case measure =>
          have := HN.out
          rw [show lenOf (.slice (some ⟨g', 0, none⟩) (xs.length + 1) cap') = xs.length + 1 from rfl]
          have : lenOf u5 = xs.length := by
            rcases row_shape HX.out with ⟨h1, -, h3⟩ | ⟨g2, cap2, h1, -⟩
            · subst h1
              have : xs.length = 0 := by
                have := congrArg List.length h3
                simpa [intsZ] using this
              rw [this]; rfl
            · subst h1; rfl
          omega
      · have K1 := Lib.hid (tlen_any HS.out)
        have e1 : decide (t ≤ now) = false := by simp; omega
        have e2 : (0 : Int) < ((n + 1 : Nat) : Int) := by omega
        go_wp2_with fail
        refine K1.out.mono ?_
        rintro e w' ⟨rfl, rfl⟩
        go_wp2_with fail
        go_ret
        exact ⟨_, rfl, FIN.out (by rw [HT.out]; omega)⟩

end Go.Proofs.Ytofdlbnlfeocoaa
