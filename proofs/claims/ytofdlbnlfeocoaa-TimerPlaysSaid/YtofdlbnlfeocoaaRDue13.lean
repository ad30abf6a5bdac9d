/- The document's Due. -/
import Derived.Test.YtofdlbnlfeocoaaDue13
import Derived.Test.YtofdlbnlfeocoaaRT13
namespace Go.Proofs.Ytofdlbnlfeocoaa
open Go.RowKit
set_option linter.unusedVariables false
set_option linter.unusedSimpArgs false

def rdueL (now : Int) : List T3 → List Int × List T3
  | [] => ([], [])
  | p :: l => if p.1 ≤ now then (p.2.1 :: (rdueL now l).1, (rdueL now l).2) else ([], p :: l)
def RDueR (w : World) (xb : Nat) (v : Value) (L : List T3) (now : Int) (e : Ending) (w' : World) : Prop :=
  ∃ u, e = .returned u ∧ w'.ownsRow w.heap.size 3 1 u (rdueL now L).1.length (intsZ (rdueL now L).1) ∧ (∃ v', Rt w' xb v' (rdueL now L).2 ∧ NewB w v v') ∧ Chg (fun i => i = xb) w w'

theorem Rt.own {w : World} {xb : Nat} {v : Value} {L : List T3} (h : Rt w xb v L) : ∀ g, v.ownBlock = some g → g ≠ xb ∧ g < w.heap.size := fun g hg => by
  rcases h.row with ⟨rfl, -⟩ | ⟨g', off, cap, rfl, -, h1, h2, -⟩
  · cases hg
  · cases hg; exact ⟨h1, h2⟩

set_option maxRecDepth 20000 in
set_option maxHeartbeats 6400000 in
theorem rdue_any {w : World} {xb : Nat} {v : Value} {L : List T3} (h : Rt w xb v L) (hn : L.length ≤ 200) (now : Int) :
    Calls Try.prog 17 #[.pointer (some ⟨xb, 0, none⟩), .int .i64 now] w (RDueR w xb v L now) := by
  have H := Lib.hid h
  clear h
  go_enter Try.func17, Try.ntmps17
  go_wp2_with fail
  go_loopw [5] (fun ov wr => ∃ (m : List T3) (xs : List Int) (u : Value), Rt wr xb u m ∧ (∀ g, u.ownBlock = some g → v.ownBlock = some g) ∧ xs.length + m.length = L.length ∧ wr.ownsRow w.heap.size 3 1 ov xs.length (intsZ xs) ∧ Chg (fun i => i = xb) w wr ∧
    (xs ++ (rdueL now m).1, (rdueL now m).2) = rdueL now L) (fun ov _ => L.length - lenOf ov)
  case atStart => exact ⟨L, [], v, H.out, fun _ h => h, by simp, World.ownsRow_nil _ _ _ _, Chg.refl _ _, by simp⟩
  case round =>
    obtain ⟨m, xs, u, hs, hu, hlen, hx, hc, he⟩ := hrel
    have HS := Lib.hid hs
    have HU := Lib.hid hu
    have HX := Lib.hid hx
    have HC := Lib.hid hc
    have HE := Lib.hid he
    have c0 := hs.cell
    have s0 := hs.soft
    have fin : rdueL now m = ([], m) → RDueR w xb v L now (.returned u5) wr := by
      intro h
      have he := HE.out
      rw [h] at he
      simp only [List.append_nil] at he
      unfold RDueR
      rw [← he]
      exact ⟨_, rfl, HX.out, ⟨_, HS.out, fun g hg => .inl (HU.out g hg)⟩, HC.out⟩
    have FIN := Lib.hid fin
    clear hs hu hx hc he fin
    cases m with
    | nil =>
      obtain ⟨va, vc, rfl⟩ : ∃ va vc, u = .slice va 0 vc := by
        rcases HS.out.row with ⟨rfl, -⟩ | ⟨g, off, cap, rfl, -⟩
        · exact ⟨none, 0, rfl⟩
        · exact ⟨_, _, rfl⟩
      go_wp2_with fail
      go_ret
      exact FIN.out rfl
    | cons p m =>
      obtain ⟨g, off, vc, rfl, hvc, hgx, hgl, hrd⟩ := HS.out.row.resolve_left (fun h => by cases h.2)
      obtain ⟨x, hpx⟩ : ∃ x, p.1 = x := ⟨_, rfl⟩
      obtain ⟨y, hpy⟩ : ∃ y, p.2.1 = y := ⟨_, rfl⟩
      have c1 : wr.cell? ⟨g, off, none⟩ = some (.int .i64 x) := by have := (hrd 0 (by simp)).1; simpa [at3, hpx] using this
      have c2 : wr.cell? ⟨g, off + 1, none⟩ = some (.int .i64 y) := by have := (hrd 0 (by simp)).2; simpa [at3, hpy] using this
      obtain ⟨n, hml⟩ : ∃ n, (p :: m).length = n + 1 := ⟨m.length, rfl⟩
      have hmn : m.length = n := by simpa using hml
      rw [hml] at c0 hvc hlen
      have HML := Lib.hid hml
      have HMN := Lib.hid hmn
      have HPX := Lib.hid hpx
      have HPY := Lib.hid hpy
      have HRD := Lib.hid hrd
      clear hml hmn hpx hpy hrd
      by_cases hle : x ≤ now
      · have e1 : decide (x ≤ now) = true := by simpa using hle
        have e2 : (0 : Int) < ((n + 1 : Nat) : Int) := by omega
        have xl : xs.length ≤ 200 := by omega
        obtain ⟨i0, hi, hz0, hz1, hz2⟩ := info_parts info_int
        have hgs : w.heap.size ≤ wr.heap.size := HC.out.size
        go_wp2_with (at_builtin; refine wpList_append_mine _ rfl (.tmp 23) (.tmp 31) 22 rfl w.heap.size 3 i0 (.int .i64 0) 1 8 Try.underlying22 hi hz0 hz1 hz2 rfl (by decide) _ _ _ rfl (HX.out.alloc _) ⟨wr.heap.size, 0, none⟩ 1 1 [.int .i64 y] rfl rfl (one_new _ _ _) (one_cell rfl) (by unfold maxLen; omega) (by omega) (row_alloc_base wr _ hgs) (by omega) ?_)
        intro g' cap' w3 hown hgrow hor hbg hlt' hc1 hc2
        have HO3 := Lib.hid hown
        have C3 : Hid (Chg (fun i => u5.ownBlock = some i) wr w3) := Lib.hid (Chg.trans ((Ex.made wr _).chg (fun i => u5.ownBlock = some i)) (Chg.grown (F := fun i => u5.ownBlock = some i) hgrow (fun i hi => hi)) (fun _ _ h => h))
        have R3 : Hid (Rt w3 xb (.slice (some ⟨g, off, none⟩) (n + 1) vc) (p :: m)) := Lib.hid (by
          have := HS.out.chg (F := fun i => u5.ownBlock = some i) ?_ ?_ C3.out
          · rw [HML.out] at this; exact this
          · intro h
            have := row_base HX.out _ h
            have := H.out.lt
            omega
          · intro q hq h
            have := row_base HX.out _ h
            have := (H.out.own q (HU.out q hq)).2
            omega)
        clear hown hgrow hor c0 c1 c2 s0
        have c0 := R3.out.cell
        have s0 := R3.out.soft
        go_wp2_with fail
        obtain ⟨ao, hao⟩ : ∃ ao, (if vc = 1 then some (⟨g, off, none⟩ : Addr) else some ⟨g, off + 2, none⟩) = ao := ⟨_, rfl⟩
        rw [hao]
        go_roundw
        case rel =>
          have hwl : xb < w3.heap.size := R3.out.lt
          have hn2 := HMN.out
          have hgw : g < w3.heap.size := Nat.lt_of_lt_of_le hgl C3.out.size
          have hrow : ∃ u, u = Value.slice ao n (vc - 1) ∧ Rt (w3.setCell ⟨xb, 0, none⟩ u) xb u m ∧ ∀ q, u.ownBlock = some q → q = g := by
            refine ⟨_, rfl, ⟨?_, ?_, ?_, ?_⟩, ?_⟩
            · go_simp
            · rw [World.frozen?_setCell]; exact R3.out.soft
            · simpa [World.setCell] using hwl
            · refine .inr ⟨g, if vc = 1 then off else off + 2, vc - 1, ?_, by omega, hgx, by simpa [World.setCell] using hgw, ?_⟩
              · rw [hn2, ← hao]; split <;> rfl
              · intro i hi
                rw [if_neg (by omega)]
                have hb : (w3.setCell ⟨xb, 0, none⟩ (.slice ao n (vc - 1))).heap[g]? = w3.heap[g]? := heap_setCell_other w3 ⟨xb, 0, none⟩ g _ hgx
                have k1 := (HRD.out.ex hgl (Ex.refl wr)) (i + 1) (by simp; omega)
                have hrd3 : Rd w3 g off (p :: m) := HRD.out.chg hgl (fun h => by have := row_base HX.out _ h; have := (H.out.own g (HU.out g rfl)).2; omega) C3.out
                obtain ⟨q1, q2⟩ := hrd3 (i + 1) (by simp; omega)
                have e1 : at3 (p :: m) (i + 1) = at3 m i := by simp [at3]
                rw [e1] at q1 q2
                constructor
                · simp only [World.cell?, hb] at q1 ⊢
                  rw [show off + 2 + i * 2 = off + (i + 1) * 2 by omega]; exact q1
                · simp only [World.cell?, hb] at q2 ⊢
                  rw [show off + 2 + i * 2 + 1 = off + (i + 1) * 2 + 1 by omega]; exact q2
            · intro q hq
              rw [← hao] at hq
              split at hq <;> (cases hq; rfl)
          obtain ⟨u, hu, hrt, hq⟩ := hrow
          have hwx : xb < w.heap.size := H.out.lt
          refine ⟨m, xs ++ [y], u, hu ▸ hrt, fun q h => ?_, ?_, ?_, ?_, ?_⟩
          · obtain rfl := hq q h
            exact HU.out q rfl
          · simp only [List.length_append, List.length_singleton]; omega
          · rw [List.length_append, show intsZ (xs ++ [y]) = intsZ xs ++ [.int .i64 y] by simp [intsZ]]
            exact row_chg HO3.out (Chg.cell (F := fun i => i = xb) w3 ⟨xb, 0, none⟩ _ rfl) (fun q h e => by have := row_base HO3.out q h; omega)
          · refine ((HC.out.trans C3.out (fun i hlt hi => ?_)).trans (Chg.cell (F := fun i => i = xb) w3 ⟨xb, 0, none⟩ _ rfl) (fun _ _ h => h))
            have := row_base HX.out i hi
            omega
          · rw [← HE.out]
            have : rdueL now (p :: m) = (y :: (rdueL now m).1, (rdueL now m).2) := by rw [rdueL, if_pos (by rw [HPX.out]; exact hle), HPY.out]
            rw [this]
            simp
        case measure =>
          rw [show lenOf (.slice (some ⟨g', 0, none⟩) (xs.length + 1) cap') = xs.length + 1 from rfl]
          have : lenOf u5 = xs.length := by
            rcases row_shape HX.out with ⟨h1, -, h3⟩ | ⟨g2, cap2, h1, -⟩
            · subst h1
              have : xs.length = 0 := by
                have := congrArg List.length h3
                simpa [intsZ] using this
              rw [this]; rfl
            · subst h1; rfl
          omega
      · have e1 : decide (x ≤ now) = false := by simp; omega
        have e2 : (0 : Int) < ((n + 1 : Nat) : Int) := by omega
        go_wp2_with fail
        go_ret
        exact FIN.out (by rw [rdueL, if_neg (by rw [HPX.out]; omega)])

end Go.Proofs.Ytofdlbnlfeocoaa
