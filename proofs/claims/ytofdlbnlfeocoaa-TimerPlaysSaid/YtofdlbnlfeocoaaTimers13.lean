/- Package timer: Timers. -/
import Derived.Test.YtofdlbnlfeocoaaPop13
namespace Go.Proofs.Ytofdlbnlfeocoaa
open Go.RowKit
set_option linter.unusedVariables false

theorem Sv.tick {w : World} {k : Int} {base b : Nat} {v : Value} {l : List (Int × Int × Int)} (h : Sv w base b k v l) (k' : Int) : Sv (w.setCell ⟨b, 1, none⟩ (.int .i64 k')) base b k' v l := by
  have h1 := h.cell
  have h2 := h.mkd
  have h3 := h.soft
  have h4 := h.msoft
  have hs : (w.setCell ⟨b, 1, none⟩ (.int .i64 k')).heap.size = w.heap.size := by simp [World.setCell]
  refine ⟨by go_simp, ownsRow_setCell_below h.row h.bl _, by go_simp, by go_simp, by go_simp, h.bl, by rw [hs]; exact h.wl⟩
theorem Sv.ex {w w' : World} {k : Int} {base b : Nat} {v : Value} {l : List (Int × Int × Int)} (h : Sv w base b k v l) (x : Ex w w') : Sv w' base b k v l := by
  have hb : b < w.heap.size := by have := h.bl; have := h.wl; omega
  exact ⟨cell_later x h.cell, row_chg (F := fun _ => False) h.row (x.chg _) (fun _ _ h => h), (x.frozen (p := ⟨b, 0, none⟩) hb).trans h.soft, cell_later x h.mkd, (x.frozen (p := ⟨b, 1, none⟩) hb).trans h.msoft, h.bl, Nat.le_trans h.wl x.size⟩

theorem new_any (w : World) : Calls Try.prog 9 #[] w fun e w' => e = .returned (.pointer (some ⟨w.heap.size, 0, none⟩)) ∧ Sv w' (w.heap.size + 1) w.heap.size 0 (.slice none 0 0) [] ∧ Ex w w' := by
  go_enter Try.func9, Try.ntmps9
  go_wp2
  go_ret
  have b := Box.fresh w #[.slice none 0 0, .int .i64 0] 53
  exact ⟨rfl, ⟨b.cell 0, World.ownsRow_nil _ _ _ _, b.soft 0, b.cell 1, b.soft 1, by omega, by simp⟩, Ex.made _ _⟩

theorem tlen_any {w : World} {k : Int} {base b n cap : Nat} {a : Option Addr} {l : List (Int × Int × Int)} (h : Sv w base b k (.slice a n cap) l) :
    Calls Try.prog 13 #[.pointer (some ⟨b, 0, none⟩)] w fun e w' => e = .returned (.int .i64 (n : Nat)) ∧ w = w' := by
  have c0 := h.cell
  clear h
  go_enter Try.func13, Try.ntmps13
  go_wp2
  go_ret
  exact ⟨rfl, rfl⟩
theorem tlen_nil (w : World) :
    Calls Try.prog 13 #[.pointer none] w fun e w' => e = .returned (.int .i64 0) ∧ w = w' := by
  go_enter Try.func13, Try.ntmps13
  go_wp2
  go_ret
  exact ⟨rfl, rfl⟩

set_option maxRecDepth 20000 in
set_option maxHeartbeats 1600000 in
theorem tnext_any {w : World} {k : Int} {base b g n cap : Nat} {l : List (Int × Int × Int)} (h : Sv w base b k (.slice (some ⟨g, 0, none⟩) (n + 1) cap) l) (hl : l.length = n + 1) (t : Int) (ht : (l.getD 0 zz).1 = t) :
    Calls Try.prog 12 #[.pointer (some ⟨b, 0, none⟩)] w fun e w' => e = .returned (.tuple #[.int .i64 t, .bool true]) ∧ w = w' := by
  have c0 := h.cell
  have K1 := Lib.hid (tlen_any h)
  have hr : Row3 w base (.slice (some ⟨g, 0, none⟩) l.length cap) l := by rw [hl]; exact h.row
  obtain ⟨a0, a1, a2⟩ := cells3_at l 0 (by omega)
  have x0 := hr.cell _ _ a0
  have e0 : l[0].1 = t := by rw [← ht]; simp [hl]
  rw [e0] at x0
  rw [Nat.zero_mul] at x0
  have q : ((n : Int) + 1 == 0) = false := by
    apply Bool.eq_false_iff.2
    intro h
    have := of_decide_eq_true h
    omega
  clear h hr a0 a1 a2 hl ht e0
  go_enter Try.func12, Try.ntmps12
  go_wp2_with fail
  refine K1.out.mono ?_
  rintro e w' ⟨rfl, rfl⟩
  go_wp2_with fail
  refine bodyPost_ret (v := .tuple #[.int .i64 t, .bool true]) (by simp [results, Try.results12, go_sem]) rfl ⟨rfl, rfl⟩

set_option maxRecDepth 20000 in
set_option maxHeartbeats 1600000 in
theorem tadd_nil (w : World) (when g : Int) :
    Calls Try.prog 10 #[.pointer none, .int .i64 when, .int .i64 g] w fun e w' => e = .returned (.tuple #[]) ∧ w = w' := by
  go_enter Try.func10, Try.ntmps10
  go_wp2_with fail
  exact Go.Great.bodyPost_end0 rfl rfl ⟨rfl, rfl⟩

set_option maxRecDepth 20000 in
set_option maxHeartbeats 3200000 in
theorem tadd_any {w : World} {k : Int} {base b : Nat} {v : Value} {l : List (Int × Int × Int)} (h : Sv w base b k v l) (when gg : Int) (n : Nat) (hl : l.length = n) (hn : n < 1000) (hk : 0 ≤ k ∧ k < 1000000) :
    Calls Try.prog 10 #[.pointer (some ⟨b, 0, none⟩), .int .i64 when, .int .i64 gg] w fun e w' => e = .returned (.tuple #[]) ∧
      (∃ g cap, Sv w' base b (k + 1) (.slice (some ⟨g, 0, none⟩) (n + 1) cap) (upL (n + 1) (l ++ [(when, gg, k + 1)]) n) ∧ g < w'.heap.size ∧ (v.ownBlock = some g ∨ w.heap.size ≤ g)) ∧ Chg (OB b v) w w' := by
  obtain ⟨k1, k2⟩ := hk
  have c1 := h.mkd
  have f1 := h.msoft
  have H := Lib.hid h
  clear h
  go_enter Try.func10, Try.ntmps10
  go_upto_region 2 with fail
  have V1 := Lib.hid (H.out.tick (k + 1))
  have C1 : Hid (Chg (OB b v) w (w.setCell ⟨b, 1, none⟩ (.int .i64 (k + 1)))) := Lib.hid (Chg.cell (F := OB b v) w ⟨b, 1, none⟩ _ (.inl rfl))
  clear c1 f1
  generalize (w.setCell ⟨b, 1, none⟩ (.int .i64 (k + 1))) = W at *
  refine wp_region_still_tail 13 (by kernel_rfl) (by kernel_rfl) ?_
  simp only [List.take_succ_cons, List.take_zero, List.drop_succ_cons, List.drop_zero]
  rw [show ({ W with drawn := W.drawn + 1 } : World) = W.drew from rfl]
  have V2 := Lib.hid (V1.out.ex (Ex.drawn W 1))
  have C2 := Lib.hid (C1.out.ex (Ex.drawn W 1))
  replace V2 : Hid (Sv W.drew base b (k + 1) v l) := V2
  replace C2 : Hid (Chg (OB b v) w W.drew) := C2
  clear V1 C1
  generalize W.drew = V at *
  have c2 := V2.out.mkd
  repeat still_step
  try refine wpStill_nil ?_
  have K1 := hpush_any V2.out (when, gg, k + 1) n hl hn
  go_wp2_with fail
  refine K1.mono ?_
  rintro e w2 ⟨rfl, ⟨g, cap, h2, hg, hat⟩, hc2⟩
  have HAT : Hid (v.ownBlock = some g ∨ w.heap.size ≤ g) := Lib.hid (hat.imp id (fun h => Nat.le_trans C2.out.size h))
  have HG := Lib.hid hg
  clear hat hg
  have H2 := Lib.hid h2
  have C3 := Lib.hid (C2.out.trans hc2 (fun _ _ h => h))
  clear h2 hc2 K1
  go_wp2_with fail
  exact Go.Great.bodyPost_end0 rfl rfl ⟨rfl, ⟨g, cap, H2.out, HG.out, HAT.out⟩, C3.out⟩

/-- All that are due are told. -/
def dueL : Nat → Int → List (Int × Int × Int) → List Int × List (Int × Int × Int)
  | 0, _, l => ([], l)
  | f + 1, now, l => if 0 < l.length ∧ (l.getD 0 zz).1 ≤ now then
      let m := popL l (l.length - 1)
      let r := dueL f now (m.take (l.length - 1))
      ((m.getD (l.length - 1) zz).2.1 :: r.1, r.2)
    else ([], l)

theorem dueL_stop {f : Nat} {now : Int} {l : List (Int × Int × Int)} (h : ¬ (0 < l.length ∧ (l.getD 0 zz).1 ≤ now)) : dueL f now l = ([], l) := by
  cases f with
  | zero => rfl
  | succ f => rw [dueL, if_neg h]

end Go.Proofs.Ytofdlbnlfeocoaa
