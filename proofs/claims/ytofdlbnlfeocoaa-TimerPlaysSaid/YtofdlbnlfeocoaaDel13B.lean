/- Package timer: Del. -/
import Derived.Test.YtofdlbnlfeocoaaDel13
import Derived.Deep.RegionHeld3
namespace Go.Proofs.Ytofdlbnlfeocoaa
open Go.RowKit
set_option linter.unusedVariables false

/-- What Del tells, and what is left. -/
def DelIs (l : List T3) (g : Int) (r : Bool) (l' : List T3) : Prop :=
  (r = false ∧ l' = l ∧ ∀ p ∈ l, p.2.1 ≠ g) ∨
  (r = true ∧ ∃ s j i, Srt l s ∧ j < s.length ∧ (at3 s j).2.1 = g ∧ (∀ c, c < j → (at3 s c).2.1 ≠ g) ∧ i < l.length ∧ at3 l i = at3 s j ∧ l' = remL l (l.length - 1) i)

def DelDone (w : World) (base b : Nat) (k : Int) (v : Value) (l : List T3) (g : Int) (e : Ending) (w' : World) : Prop :=
  ∃ r l' u, e = .returned (.bool r) ∧ DelIs l g r l' ∧ Sv w' base b k u l' ∧ u.ownBlock = v.ownBlock ∧ Chg (OB b v) w w'

theorem ex_drew (w : World) : Ex w w.drew := Ex.drawn w 1

theorem Sv.ownlt {w : World} {k : Int} {base b : Nat} {v : Value} {l : List T3} (h : Sv w base b k v l) : ∀ g, v.ownBlock = some g → g < w.heap.size := by
  intro g hg
  rcases row_shape h.row with ⟨rfl, -⟩ | ⟨g', cap, rfl, -, h2, -⟩
  · cases hg
  · cases hg; exact h2

set_option maxRecDepth 20000 in
set_option maxHeartbeats 3200000 in
theorem del_any {w : World} {k : Int} {base b : Nat} {v : Value} {l : List T3} (h : Sv w base b k v l) (g : Int) (hn : l.length < 900) :
    Calls Try.prog 14 #[.pointer (some ⟨b, 0, none⟩), .int .i64 g] w (DelDone w base b k v l g) := by
  obtain ⟨n, hn'⟩ : ∃ n, l.length = n := ⟨_, rfl⟩
  have HN := Lib.hid hn'
  have H := Lib.hid h
  have K1 := Lib.hid (sorted_any h n hn' (by omega))
  have hn1 : n < 900 := by omega
  clear h hn' hn
  go_enter Try.func14, Try.ntmps14
  go_wp2_with fail
  refine K1.out.mono ?_
  rintro e w1 ⟨a, cap, s, rfl, hs, hr, hx⟩
  have HS := Lib.hid hs
  have HR := Lib.hid hr
  have HX := Lib.hid hx
  have hsl : s.length = n := by rw [hs.perm.length_eq]; exact HN.out
  have HSL := Lib.hid hsl
  clear hs hr hx hsl K1
  go_wp2_with fail
  go_loopw [10] (fun iv wr => ∃ j : Nat, j ≤ n ∧ iv = .int .i64 j ∧ Ex w1 wr ∧ ∀ c, c < j → (at3 s c).2.1 ≠ g) (fun iv _ => n - (intOf iv).toNat)
  case atStart => exact ⟨0, Nat.zero_le _, rfl, Ex.refl _, fun c hc => absurd hc (Nat.not_lt_zero c)⟩
  case round =>
    obtain ⟨j, hj, rfl, hx, hno⟩ := hrel
    have HX2 := Lib.hid hx
    have HNO := Lib.hid hno
    clear hx hno
    by_cases hlt : j < n
    · have hlt' : (j : Int) < (n : Int) := by omega
      have hr := row_chg (F := fun _ => False) HR.out (HX2.out.chg _) (fun _ _ h => h)
      obtain ⟨gs, rfl⟩ : ∃ gs, a = some ⟨gs, 0, none⟩ := by
        rcases row_shape hr with ⟨h1, h2, -⟩ | ⟨gs, cap', h1, -⟩
        · have := HSL.out; omega
        · simp only [Value.slice.injEq] at h1
          exact ⟨gs, h1.1⟩
      have hcap : (n : Int) ≤ (cap : Int) := by
        rcases row_shape hr with ⟨h1, -, -⟩ | ⟨g', cap', h1, -, -, h4, -⟩
        · cases h1
        · simp only [Value.slice.injEq] at h1
          have := HSL.out
          omega
      have hr' : Row3 wr w.heap.size (.slice (some ⟨gs, 0, none⟩) s.length cap) s := by rw [HSL.out]; exact hr
      have hjs : j < s.length := by rw [HSL.out]; exact hlt
      obtain ⟨a0, a1, a2⟩ := cells3_at s j hjs
      have x0 := hr'.cell _ _ a0
      have x1 := hr'.cell _ _ a1
      have x2 := hr'.cell _ _ a2
      obtain ⟨p, hp⟩ : ∃ p, at3 s j = p := ⟨_, rfl⟩
      have hp2 : s[j] = p := by rw [← hp]; simp [at3, hjs]
      rw [hp2] at x0 x1 x2
      have HP := Lib.hid hp
      have HM : Hid (p ∈ l) := Lib.hid (by rw [← hp2]; exact HS.out.perm.mem_iff.1 (List.getElem_mem _))
      obtain ⟨p1, p2, p3⟩ := p
      dsimp only at x0 x1 x2
      clear hr hr' a0 a1 a2 hp hp2 hjs
      by_cases hg : p2 = g
      · subst hg
        have e1 : (p2 == p2) = true := by simp
        have V2 := Lib.hid (H.out.ex (HX.out.trans HX2.out))
        obtain ⟨va, vc, rfl⟩ := row_val H.out.row
        obtain ⟨g0, rfl⟩ : ∃ g0, va = some ⟨g0, 0, none⟩ := by
          rcases row_shape H.out.row with ⟨h1, h2, -⟩ | ⟨gs, cap', h1, -⟩
          · have := HN.out; omega
          · simp only [Value.slice.injEq] at h1
            exact ⟨gs, h1.1⟩
        rw [HN.out] at V2
        go_upto_region 5 with fail
        have B3 := Lib.hid (Box.fresh wr #[.int .i64 p1, .int .i64 p2, .int .i64 p3] 57)
        have V3 := Lib.hid (V2.out.ex (Ex.made wr (.cells #[.int .i64 p1, .int .i64 p2, .int .i64 p3] 57)))
        have X3 := Lib.hid ((HX.out.trans HX2.out).trans (Ex.made wr (.cells #[.int .i64 p1, .int .i64 p2, .int .i64 p3] 57)))
        obtain ⟨W3, hW3⟩ : ∃ W3, W3 = wr.alloc (.cells #[.int .i64 p1, .int .i64 p2, .int .i64 p3] 57) := ⟨_, rfl⟩
        rw [← hW3] at B3 V3 X3 ⊢
        clear hW3 x0 x1 x2
        have hbx : wr.heap.size < W3.heap.size := B3.out.lt
        generalize wr.heap.size = xb at *
        have k0 : W3.cell? ⟨b, 0, none⟩ = some (.slice (some ⟨g0, 0, none⟩) n vc) := V3.out.cell
        have k1 : W3.cell? ⟨xb, 0, none⟩ = some (.int .i64 p1) := B3.out.cell 0
        have k2 : W3.cell? ⟨xb, 1, none⟩ = some (.int .i64 p2) := B3.out.cell 1
        have k3 : W3.cell? ⟨xb, 2, none⟩ = some (.int .i64 p3) := B3.out.cell 2
        have kE : Ex W3 W3 := Ex.refl _
        have KI : Hid (∀ w', Ex W3 w' → Calls Try.prog 24 #[.slice (some ⟨g0, 0, none⟩) n vc, .agg #[.int .i64 p1, .int .i64 p2, .int .i64 p3]] w' fun e w2 => ∃ i : Nat, e = .returned (.int .i64 i) ∧ i < n ∧ at3 l i = (p1, p2, p3) ∧ Ex w' w2) :=
          Lib.hid (fun w' hw' => index_any (V3.out.ex hw').row HN.out (by omega) (p1, p2, p3) HM.out)
        clear hlt' hcap
        obtain ⟨m, rfl⟩ : ∃ m, n = m + 1 := ⟨n - 1, by omega⟩
        have KR : Hid (∀ (i : Nat) w', i < m + 1 → Ex W3 w' → Calls Try.prog 23 #[.iface 55 (.pointer (some ⟨b, 0, none⟩)), .int .i64 i] w' (SomeV fun w'' => Sv w'' base b k (.slice (some ⟨g0, 0, none⟩) m vc) (remL l m i) ∧ g0 < w''.heap.size ∧ Chg (fun j => j = b ∨ j = g0) w' w'')) :=
          Lib.hid (fun i w' hi hw' => hrem_any m i (V3.out.ex hw') HN.out ((V3.out.ex hw').ownlt g0 rfl) (by omega) (by omega))
        have hm : Hid (m < 900) := Lib.hid (by omega)
        go_region_with (first | (go_at_call 24; (with_reducible refine (KI.out _ (ex_drew W3)).mono ?_); rintro e w2 ⟨i, rfl, hi1, hi2, hi3⟩) | (go_at_call 23; (with_reducible refine (KR.out _ _ hi1 (Ex.trans (ex_drew W3) hi3)).mono ?_); rintro e w4 ⟨x4, rfl, hv4, hg4, hc4⟩))
        all_goals
          have X4 := Lib.hid (X3.out.trans ((ex_drew W3).trans hi3))
          have V4 := Lib.hid hv4
          have C4 := Lib.hid hc4
          have I1 := Lib.hid hi1
          have I2 := Lib.hid hi2
          clear hv4 hc4 hi1 hi2 hi3 k0 k1 k2 k3 kE
          go_wp2_with fail
          go_ret
          refine ⟨true, remL l m i, _, rfl, .inr ⟨rfl, s, j, i, HS.out, by rw [HSL.out]; exact hlt, by rw [HP.out], HNO.out, by rw [HN.out]; exact I1.out, by rw [I2.out, HP.out], by rw [HN.out]; rfl⟩, V4.out, rfl, ?_⟩
          refine (X4.out.chg (OB b _)).trans C4.out (fun i _ hi => ?_)
          rcases hi with rfl | rfl
          · exact .inl rfl
          · exact .inr rfl
      · have e1 : (p2 == g) = false := by simpa using hg
        have NG := Lib.hid hg
        clear hg
        go_wp2_with fail
        go_roundw
        case rel =>
          refine ⟨j + 1, by omega, by go_num, HX2.out.trans (Ex.made _ _), ?_⟩
          intro c hc
          by_cases e : c = j
          · subst e; rw [HP.out]; exact NG.out
          · exact HNO.out c (by omega)
        case measure => simp [intOf]; omega
    · obtain rfl : j = n := by omega
      have e1 : ¬ (j : Int) < (j : Int) := by omega
      go_wp2_with fail
      go_ret
      refine ⟨false, l, v, rfl, .inl ⟨rfl, rfl, ?_⟩, H.out.ex (HX.out.trans HX2.out), rfl, (HX.out.trans HX2.out).chg _⟩
      intro p hp
      obtain ⟨c, hc, rfl⟩ := List.getElem_of_mem (HS.out.perm.mem_iff.2 hp)
      have := HNO.out c (by have := HSL.out; omega)
      rwa [show at3 s c = s[c] by simp [at3, hc]] at this

end Go.Proofs.Ytofdlbnlfeocoaa
