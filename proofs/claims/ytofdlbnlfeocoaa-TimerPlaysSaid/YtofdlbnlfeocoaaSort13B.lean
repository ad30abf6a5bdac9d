/- Package timer: sorted, slices.Index. -/
import Derived.Test.YtofdlbnlfeocoaaSort13
namespace Go.Proofs.Ytofdlbnlfeocoaa
open Go.RowKit Go.Sort Go.Shelf Go.Lib
set_option linter.unusedVariables false

theorem clone_any {w : World} {base g cap n : Nat} {l : List T3} (h : Row3 w base (.slice (some ⟨g, 0, none⟩) n cap) l) (hn : l.length = n) (hl : n < 1000) :
    Calls Try.prog 27 #[.slice (some ⟨g, 0, none⟩) n cap] w fun e w' => ∃ g' cap', e = .returned (.slice (some ⟨g', 0, none⟩) n cap') ∧ Row3 w' w.heap.size (.slice (some ⟨g', 0, none⟩) n cap') l ∧ Ex w w' := by
  subst hn
  obtain ⟨i0, hi, hz0, hz1, hz2⟩ := info_parts info57
  have K := AnyE.slices_Clone Try.cloneL i0 (.agg #[.int .i64 0, .int .i64 0, .int .i64 0]) 3 24 hi hz0 hz1 hz2 rfl (by decide) Try.sizeOf57 g 0 l.length cap (cells3 l) w (cells3_length l) (by unfold maxLen; omega) (by omega) ?_ ?_
  · change Calls Try.prog 27 _ _ _ at K
    refine K.mono ?_
    rintro e w' ⟨v', rfl, h1, h2, h3⟩
    rcases row_shape h1 with ⟨h4, -⟩ | ⟨g', cap', rfl, -⟩
    · exact absurd h4 h2
    · exact ⟨g', cap', rfl, h1, h3⟩
  · intro j u hj
    rw [Nat.zero_add]
    have : j < l.length * 3 := by
      have := (List.getElem?_eq_some_iff.1 hj).1
      rwa [cells3_length] at this
    rw [World.ownsRow.cellAt h j this]
    exact hj
  · intro u hu
    obtain ⟨j, hj, rfl⟩ := List.getElem_of_mem hu
    have h1 := cells3_get l j
    rw [List.getElem?_eq_getElem hj] at h1
    rw [cells3_length] at hj
    rw [if_pos hj] at h1
    have h2 : (cells3 l)[j] ∈ enc3 (l.getD (j / 3) zz) := List.mem_of_getElem? h1.symm
    unfold enc3 at h2
    simp at h2
    rcases h2 with h2 | h2 | h2 <;> rw [h2] <;> rfl

theorem sort_any {w : World} {base g cap n : Nat} {l : List T3} (h : Row3 w base (.slice (some ⟨g, 0, none⟩) n cap) l) (hn : l.length = n) (hl : n < 1000) :
    Calls Try.prog 28 #[.slice (some ⟨g, 0, none⟩) n cap, .func (.func 29) #[] #[]] w fun e w' => e = .returned (.tuple #[]) ∧ ∃ s, Srt l s ∧ Row3 w' base (.slice (some ⟨g, 0, none⟩) n cap) s ∧ Chg (fun i => i = g) w w' := by
  subst hn
  have hg : g < w.heap.size := by
    rcases row_shape h with ⟨h1, -⟩ | ⟨g', cap', h1, -, h2, -⟩
    · cases h1
    · cases h1; exact h2
  have eg : ∀ args w, (callFunc 29 args).run Try.prog w = .ok (.enter 29 args) w := enters_of Try.func29 (by kernel_rfl) rfl
  have K := AnyQ.slices_SortFunc Try.sortL 3 Try.isAgg57 Try.sizeOf57 enc3 (fun _ => rfl) (fun x v hv => by unfold enc3 at hv; simp at hv; rcases hv with rfl | rfl | rfl <;> rfl) ord swo3 29 #[] g 0 cap l.toArray w eg (cmp3 _ _ _ _) (holds3 h) hg (by simp; omega)
  change Calls Try.prog 28 _ _ _ at K
  refine K.mono ?_
  rintro e w' ⟨rfl, d', n, os, h1, h2, rfl⟩
  obtain ⟨k1, k2⟩ := row_sorted (n := n) (os := os) (s := d') h (by simpa using h1.1)
  exact ⟨rfl, d'.toList, srt_of h1 h2, k1, k2⟩

set_option maxRecDepth 20000 in
set_option maxHeartbeats 1600000 in
theorem sorted_any {w : World} {k : Int} {base b : Nat} {v : Value} {l : List T3} (h : Sv w base b k v l) (n : Nat) (hn : l.length = n) (hl : n < 1000) :
    Calls Try.prog 22 #[.pointer (some ⟨b, 0, none⟩)] w fun e w' => ∃ a cap s, e = .returned (.slice a n cap) ∧ Srt l s ∧ Row3 w' w.heap.size (.slice a n cap) s ∧ Ex w w' := by
  have c0 := h.cell
  have hr := h.row
  rcases row_shape hr with ⟨rfl, h1, -⟩ | ⟨g, cap, rfl, -⟩
  · obtain rfl : l = [] := List.eq_nil_of_length_eq_zero h1
    obtain rfl : n = 0 := hn.symm
    have K1 : Calls Try.prog 27 #[.slice none 0 0] w fun e w' => e = .returned (.slice none 0 0) ∧ w' = w := AnyE.slices_Clone_nil Try.cloneL 0 0 w
    have K2 : Calls Try.prog 28 #[.slice none 0 0, .func (.func 29) #[] #[]] w fun e w' => e = .returned (.tuple #[]) ∧ w' = w := AnyF.slices_SortFunc_none Try.sortL none 0 _ w
    have H1 := Lib.hid K1
    have H2 := Lib.hid K2
    clear K1 K2 h hr
    go_enter Try.func22, Try.ntmps22
    go_wp2_with fail
    refine H1.out.mono ?_
    rintro e w' ⟨rfl, rfl⟩
    go_wp2_with fail
    refine H2.out.mono ?_
    rintro e w' ⟨rfl, rfl⟩
    go_wp2_with fail
    go_ret
    exact ⟨none, 0, [], rfl, ⟨List.Perm.refl _, List.Pairwise.nil⟩, World.ownsRow_nil _ _ _ _, Ex.refl _⟩
  · have hr' : Row3 w base (.slice (some ⟨g, 0, none⟩) n cap) l := by rw [hn] at hr; exact hr
    rw [hn] at c0
    have K1 := Lib.hid (clone_any hr' hn hl)
    clear h hr hr'
    go_enter Try.func22, Try.ntmps22
    go_wp2_with fail
    refine K1.out.mono ?_
    rintro e w1 ⟨g', cap', rfl, h1, h2⟩
    have K2 := Lib.hid (sort_any h1 hn hl)
    have X1 := Lib.hid h2
    have hg : w.heap.size ≤ g' := row_base h1 g' rfl
    clear h1 h2 c0
    go_wp2_with fail
    refine K2.out.mono ?_
    rintro e w2 ⟨rfl, s, h1, h2, h3⟩
    have S2 := Lib.hid h1
    have R2 := Lib.hid h2
    have C2 := Lib.hid h3
    clear h1 h2 h3
    go_wp2_with fail
    go_ret
    exact ⟨_, cap', s, rfl, S2.out, R2.out, Below.trans X1.out (C2.out.below X1.out.size (fun i hi => hi ▸ hg))⟩

end Go.Proofs.Ytofdlbnlfeocoaa
