/- Package timer: All. -/
import Derived.Test.YtofdlbnlfeocoaaDel13B
namespace Go.Proofs.Ytofdlbnlfeocoaa
open Go.RowKit
set_option linter.unusedVariables false

/-- The two cells of each. -/
def cells2 : List T3 → List Value
  | [] => []
  | p :: l => .int .i64 p.1 :: .int .i64 p.2.1 :: cells2 l
theorem cells2_length : ∀ l, (cells2 l).length = l.length * 2
  | [] => rfl
  | p :: l => by simp [cells2, cells2_length l]; omega
theorem cells2_append : ∀ a b, cells2 (a ++ b) = cells2 a ++ cells2 b
  | [], b => rfl
  | p :: l, b => by simp [cells2, cells2_append l b]
theorem cells2_at : ∀ (l : List T3) (k : Nat) (h : k < l.length), (cells2 l)[k * 2]? = some (.int .i64 l[k].1) ∧ (cells2 l)[k * 2 + 1]? = some (.int .i64 l[k].2.1)
  | [], k, h => by simp at h
  | p :: l, 0, h => by simp [cells2]
  | p :: l, k + 1, h => by
    have ih := cells2_at l k (by simpa using h)
    rw [show (k + 1) * 2 = k * 2 + 2 by omega, show k * 2 + 2 + 1 = k * 2 + 1 + 2 by omega]
    simpa [cells2] using ih

theorem info45 : (Try.prog.info? 45).map (fun i => (i.zero, i.size, i.bytes)) = some (some (.agg #[.int .i64 0, .int .i64 0]), 2, 16) := by kernel_rfl

theorem two_new (w : World) (x y : Value) (t : TypeId) : ∀ (j : Nat) (u : Value), [x, y][j]? = some u → (w.alloc (.cells #[x, y] t)).cell? ((⟨w.heap.size, 0, none⟩ : Addr).add j) = some u := by
  intro j u hj
  have hb : Box (w.alloc (.cells #[x, y] t)) w.heap.size #[x, y] t := Box.fresh w _ t
  rw [show (⟨w.heap.size, 0, none⟩ : Addr).add j = ⟨w.heap.size, j, none⟩ by simp [Addr.add]; exact fun h => h.symm, hb.cell j]
  simpa using hj

def AllIs (w : World) (l : List T3) (e : Ending) (w' : World) : Prop :=
  ∃ s u, e = .returned u ∧ Srt l s ∧ w'.ownsRow w.heap.size 45 2 u s.length (cells2 s) ∧ Ex w w'

theorem take_snoc3 (l : List T3) (k : Nat) (h : k < l.length) : l.take (k + 1) = l.take k ++ [at3 l k] := by
  rw [List.take_succ_eq_append_getElem h, show at3 l k = l[k] by simp [at3, h]]

set_option maxRecDepth 20000 in
set_option maxHeartbeats 3200000 in
theorem all_any {w : World} {k : Int} {base b : Nat} {v : Value} {l : List T3} (h : Sv w base b k v l) (hn : l.length < 900) :
    Calls Try.prog 19 #[.pointer (some ⟨b, 0, none⟩)] w (AllIs w l) := by
  obtain ⟨n, hn'⟩ : ∃ n, l.length = n := ⟨_, rfl⟩
  have HN := Lib.hid hn'
  have H := Lib.hid h
  have K1 := Lib.hid (sorted_any h n hn' (by omega))
  have hn1 : n < 900 := by omega
  clear h hn' hn
  go_enter Try.func19, Try.ntmps19
  go_wp2_with fail
  refine K1.out.mono ?_
  rintro e w1 ⟨a, cap, s, rfl, hs, hr, hx⟩
  have HS := Lib.hid hs
  have HR := Lib.hid hr
  have HX := Lib.hid hx
  have hsl : s.length = n := by rw [hs.perm.length_eq]; exact HN.out
  have HSL := Lib.hid hsl
  clear hs hr hx hsl K1
  go_wp2_with fail
  go_loopw [3, 9] (fun ov iv wr => ∃ j : Nat, j ≤ n ∧ iv = .int .i64 j ∧ Ex w1 wr ∧ wr.ownsRow w1.heap.size 45 2 ov j (cells2 (s.take j))) (fun _ iv _ => n - (intOf iv).toNat)
  case atStart => exact ⟨0, Nat.zero_le _, rfl, Ex.refl _, World.ownsRow_nil _ _ _ _⟩
  case round =>
    obtain ⟨j, hj, rfl, hx, hown⟩ := hrel
    have HX2 := Lib.hid hx
    have HO := Lib.hid hown
    clear hx hown
    by_cases hlt : j < n
    · have hlt' : (j : Int) < (n : Int) := by omega
      have hr := row_chg (F := fun _ => False) HR.out (HX2.out.chg _) (fun _ _ h => h)
      obtain ⟨gs, rfl⟩ : ∃ gs, a = some ⟨gs, 0, none⟩ := by
        rcases row_shape hr with ⟨h1, h2, -⟩ | ⟨gs, cap', h1, -⟩
        · have := HSL.out; omega
        · simp only [Value.slice.injEq] at h1
          exact ⟨gs, h1.1⟩
      have hcap : (n : Int) ≤ (cap : Int) := by
        rcases row_shape hr with ⟨h1, -, -⟩ | ⟨g', cap', h1, -, -, h4, -⟩
        · cases h1
        · simp only [Value.slice.injEq] at h1
          have := HSL.out
          omega
      have hr' : Row3 wr w.heap.size (.slice (some ⟨gs, 0, none⟩) s.length cap) s := by rw [HSL.out]; exact hr
      have hjs : j < s.length := by rw [HSL.out]; exact hlt
      obtain ⟨a0, a1, a2⟩ := cells3_at s j hjs
      have x0 := hr'.cell _ _ a0
      have x1 := hr'.cell _ _ a1
      have x2 := hr'.cell _ _ a2
      obtain ⟨p, hp⟩ : ∃ p, at3 s j = p := ⟨_, rfl⟩
      have hp2 : s[j] = p := by rw [← hp]; simp [at3, hjs]
      rw [hp2] at x0 x1 x2
      have HP := Lib.hid hp
      have HT := Lib.hid (take_snoc3 s j hjs)
      obtain ⟨p1, p2, p3⟩ := p
      dsimp only at x0 x1 x2
      clear hr hr' a0 a1 a2 hp hp2 hjs
      obtain ⟨i0, hi, hz0, hz1, hz2⟩ := info_parts info45
      have hws : w1.heap.size ≤ wr.heap.size := HX2.out.size
      go_wp2_with (at_builtin; refine wpList_append_mine _ rfl (.tmp 13) (.tmp 16) 37 rfl w1.heap.size 45 i0 (.agg #[.int .i64 0, .int .i64 0]) 2 16 Try.underlying37 hi hz0 hz1 hz2 rfl (by decide) _ _ _ rfl ((HO.out.alloc _).alloc _) ⟨wr.heap.size + 1, 0, none⟩ 1 1 [.int .i64 p1, .int .i64 p2] rfl rfl (by have := two_new (wr.alloc (.cells #[.int .i64 p1, .int .i64 p2, .int .i64 p3] 57)) (.int .i64 p1) (.int .i64 p2) 45; simpa using this) (by simp [Value.oneCell']) (by unfold maxLen; omega) (by omega) (by simp; omega) (by omega) ?_)
      intro g' cap' w3 hown hgrow hor hbg hlt2 hc1 hc2
      have HO3 := Lib.hid hown
      have X3 : Hid (Ex w1 w3) := Lib.hid (by
        have e1 : Ex wr ((wr.alloc (.cells #[.int .i64 p1, .int .i64 p2, .int .i64 p3] 57)).alloc (.cells #[.int .i64 p1, .int .i64 p2] 45)) := (Ex.made _ _).trans (Ex.made _ _)
        have c1 := Chg.trans (e1.chg (fun i => u3.ownBlock = some i)) (Chg.grown (F := fun i => u3.ownBlock = some i) hgrow (fun i hi => hi)) (fun _ _ h => h)
        exact Below.trans HX2.out (c1.below hws (fun i hi => row_base HO.out i hi)))
      clear hown hgrow hor
      go_wp2_with fail
      go_roundw
      case rel =>
        refine ⟨j + 1, by omega, by go_num, X3.out, ?_⟩
        have := HO3.out
        rw [HT.out, HP.out, cells2_append]
        exact this
      case measure => simp [intOf]; omega
    · obtain rfl : j = n := by omega
      have e1 : ¬ (j : Int) < (j : Int) := by omega
      go_wp2_with fail
      go_ret
      refine ⟨s, _, rfl, HS.out, ?_, HX.out.trans HX2.out⟩
      have := HO.out
      rw [List.take_of_length_le (by rw [HSL.out]; exact Nat.le_refl _)] at this
      rw [HSL.out]
      refine ⟨this.1, ?_⟩
      rcases this.2 with h1 | ⟨g, c, cur, h1, h2, h3⟩
      · exact .inl h1
      · exact .inr ⟨g, c, cur, h1, Nat.le_trans HX.out.size h2, h3⟩

end Go.Proofs.Ytofdlbnlfeocoaa
