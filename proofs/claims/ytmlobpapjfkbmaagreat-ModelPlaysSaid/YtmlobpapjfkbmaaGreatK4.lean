/- Part 4 of what is proved of the program of layer 16: Heap13, Pop13, Timers16, Due16, HeapDue16, Abs16, TS16. -/
import Derived.Test.YtmlobpapjfkbmaaGreatK3
/- container/heap: Push, Pop. -/
namespace Go.Proofs.YtmlobpapjfkbmaaGreat.T13
open Go.RowKit
set_option linter.unusedVariables false
set_option maxRecDepth 20000

theorem Sv.sl {w : World} {k : Int} {base b g n cap : Nat} {l : List (Int × Int × Int)} (h : Sv w base b k (.slice (some ⟨g, 0, none⟩) n cap) l) (hn : l.length = n) (hg : g < w.heap.size) : Sl w base b g cap n l :=
  ⟨h.cell, h.row, hn, by have := h.own g rfl; have := h.bl; omega, hg, by have := h.bl; have := h.wl; omega⟩
theorem Sv.back {w w' : World} {k : Int} {base b g n cap : Nat} {l m : List (Int × Int × Int)} (h : Sv w base b k (.slice (some ⟨g, 0, none⟩) n cap) l) (k' : Sl w' base b g cap n m) (hc : Chg (fun i => i = g) w w') : Sv w' base b k (.slice (some ⟨g, 0, none⟩) n cap) m := by
  have hb := hc.block b (by have := h.bl; have := h.wl; omega) (fun e => k'.gb e.symm)
  refine ⟨k'.cell, k'.row, ?_, ?_, ?_, h.bl, Nat.le_trans h.wl hc.size⟩
  · have := h.soft
    simp only [World.frozen?, hb] at this ⊢
    exact this
  · have := h.mkd
    simp only [World.cell?, hb] at this ⊢
    exact this
  · have := h.msoft
    simp only [World.frozen?, hb] at this ⊢
    exact this

def FB (base b : Nat) (i : Nat) : Prop := i = b ∨ base ≤ i
theorem Sv.fb {w w1 w' : World} {k : Int} {base b : Nat} {v : Value} {l : List (Int × Int × Int)} (h : Sv w base b k v l) (c : Chg (OB b v) w1 w') : Chg (FB base b) w1 w' :=
  c.weak (fun i _ hi => hi.imp id (fun e => h.own i e))

theorem mlen_any (w : World) (a : Option Addr) (n cap : Nat) : Calls Tryz.prog 111 #[.slice a n cap] w fun e w' => e = .returned (.int .i64 (n : Nat)) ∧ w = w' := by
  go_enter Tryz.func111, Tryz.ntmps111
  go_wp2
  go_ret
  exact ⟨rfl, rfl⟩

set_option maxRecDepth 20000 in
set_option maxHeartbeats 3200000 in
theorem hpush_any {w : World} {k : Int} {base b : Nat} {v : Value} {l : List (Int × Int × Int)} (h : Sv w base b k v l) (p : Int × Int × Int) (n : Nat) (hl : l.length = n) (hn : n < 1000) :
    Calls Tryz.prog 88 #[pS b, .iface 113 (.agg #[.int .i64 p.1, .int .i64 p.2.1, .int .i64 p.2.2])] w fun e w' => e = .returned (.tuple #[]) ∧
      (∃ g cap, Sv w' base b k (.slice (some ⟨g, 0, none⟩) (n + 1) cap) (upL (n + 1) (l ++ [p]) n) ∧ g < w'.heap.size ∧ (v.ownBlock = some g ∨ w.heap.size ≤ g)) ∧ Chg (OB b v) w w' := by
  subst hl
  unfold pS
  have mp := method_push b w
  have K1 := Lib.hid (mpush_any h p hn)
  have H := Lib.hid h
  clear h
  go_enter Tryz.func88, Tryz.ntmps88
  go_wp2_with fail
  refine K1.out.mono ?_
  rintro e w1 ⟨rfl, ⟨g, cap, h1, hg, hat⟩, hc⟩
  have HAT := Lib.hid hat
  clear hat
  have H1 := Lib.hid h1
  have C1 := Lib.hid hc
  have HG := Lib.hid hg
  have ml := method_len h1.cell
  have q1 : wrap64 (((l.length + 1 : Nat) : Int) - 1) = ((l.length : Nat) : Int) := by unfold wrap64; omega
  have q2 : ((l.length + 1 : Nat) : Int) - 1 = ((l.length : Nat) : Int) := by omega
  clear h1 hc hg mp
  go_wp2_with fail
  refine (mlen_any w1 (some ⟨g, 0, none⟩) (l.length + 1) cap).mono ?_
  rintro e w' ⟨rfl, rfl⟩
  go_wp2_with fail
  refine (up_any (H1.out.sl (by simp) HG.out) l.length (by omega) (by omega)).mono ?_
  rintro e w2 ⟨rfl, h2, hc2⟩
  have H2 := Lib.hid (H1.out.back h2 hc2)
  have G2 := Lib.hid h2.gl
  have C2 := Lib.hid hc2
  clear h2 hc2
  go_wp2_with fail
  refine Go.Great.bodyPost_end0 rfl rfl ⟨rfl, ⟨g, cap, H2.out, G2.out, HAT.out⟩, ?_⟩
  refine (C1.out.weak (G := OB b v) (fun i _ hi => hi)).trans C2.out (fun i hlt hi => ?_)
  subst hi
  rcases HAT.out with h | h
  · exact .inr h
  · omega

end Go.Proofs.YtmlobpapjfkbmaaGreat.T13

/- container/heap: Pop. -/
namespace Go.Proofs.YtmlobpapjfkbmaaGreat.T13
open Go.RowKit
set_option linter.unusedVariables false
set_option maxRecDepth 20000

theorem pop_end {w : World} {k : Int} {base b g cap n : Nat} {l : List (Int × Int × Int)} {p : Int × Int × Int} (h : Sv w base b k (.slice (some ⟨g, 0, none⟩) (n + 1) cap) (l ++ [p])) (hl : l.length = n) (hb : b < w.heap.size) (o : Obj) :
    Sv ((w.setCell ⟨b, 0, none⟩ (.slice (some ⟨g, 0, none⟩) n cap)).alloc o) base b k (.slice (some ⟨g, 0, none⟩) n cap) l := by
  have hs : (w.setCell ⟨b, 0, none⟩ (.slice (some ⟨g, 0, none⟩) n cap)).heap.size = w.heap.size := by simp [World.setCell]
  have hc : (w.setCell ⟨b, 0, none⟩ (.slice (some ⟨g, 0, none⟩) n cap)).cell? ⟨b, 0, none⟩ = some (.slice (some ⟨g, 0, none⟩) n cap) := by
    have := h.cell
    go_simp
  have hf : (w.setCell ⟨b, 0, none⟩ (.slice (some ⟨g, 0, none⟩) n cap)).frozen? ⟨b, 0, none⟩ = false := by rw [World.frozen?_setCell]; exact h.soft
  have hr : w.ownsRow base 113 3 (.slice (some ⟨g, 0, none⟩) n cap) n (cells3 l) := by
    have := h.row
    unfold Row3 at this
    rw [cells3_append, show (l ++ [p]).length = n + 1 by simp [hl]] at this
    exact ownsRow_pop (by rw [cells3_length, hl]) this
  have hm : (w.setCell ⟨b, 0, none⟩ (.slice (some ⟨g, 0, none⟩) n cap)).cell? ⟨b, 1, none⟩ = some (.int .i64 k) := by
    have := h.mkd
    go_simp
  have hmf : (w.setCell ⟨b, 0, none⟩ (.slice (some ⟨g, 0, none⟩) n cap)).frozen? ⟨b, 1, none⟩ = false := by rw [World.frozen?_setCell]; exact h.msoft
  refine ⟨cell_later (Ex.made _ o) hc, ?_, ((Ex.made _ o).frozen (p := ⟨b, 0, none⟩) (by rw [hs]; exact hb)).trans hf, cell_later (Ex.made _ o) hm, ((Ex.made _ o).frozen (p := ⟨b, 1, none⟩) (by rw [hs]; exact hb)).trans hmf, h.bl, by have := h.wl; simp [hs]; omega⟩
  unfold Row3
  rw [hl]
  exact World.ownsRow.alloc (ownsRow_setCell_below hr h.bl _) o

set_option maxRecDepth 20000 in
set_option maxHeartbeats 3200000 in
theorem mpop_any {w : World} {k : Int} {base b g cap : Nat} {l : List (Int × Int × Int)} (n : Nat) (p : Int × Int × Int) (h : Sv w base b k (.slice (some ⟨g, 0, none⟩) (n + 1) cap) (l ++ [p])) (hl : l.length = n) (hg : g < w.heap.size) (hn : n < 1000) :
    Calls Tryz.prog 120 #[.pointer (some ⟨b, 0, none⟩)] w fun e w' => e = .returned (.iface 113 (.agg #[.int .i64 p.1, .int .i64 p.2.1, .int .i64 p.2.2])) ∧
      Sv w' base b k (.slice (some ⟨g, 0, none⟩) n cap) l ∧ g < w'.heap.size ∧ Chg (fun i => i = b ∨ i = g) w w' := by
  obtain ⟨p1, p2, p3⟩ := p
  have c0 := h.cell
  have f0 := h.soft
  have hr : Row3 w base (.slice (some ⟨g, 0, none⟩) (l ++ [(p1, p2, p3)]).length cap) (l ++ [(p1, p2, p3)]) := by
    have := h.row
    rw [show (l ++ [(p1, p2, p3)]).length = n + 1 by simp [hl]]
    exact this
  obtain ⟨a0, a1, a2⟩ := cells3_at (l ++ [(p1, p2, p3)]) n (by simp [hl])
  have x0 := hr.cell _ _ a0
  have x1 := hr.cell _ _ a1
  have x2 := hr.cell _ _ a2
  have el : (l ++ [(p1, p2, p3)])[n]'(by simp [hl]) = (p1, p2, p3) := by subst hl; simp
  rw [el] at x0 x1 x2
  dsimp only at x0 x1 x2
  have q1 : ((n + 1 : Nat) : Int) - 1 = (n : Int) := by omega
  have q2 : wrap64 (n : Int) = (n : Int) := by unfold wrap64; omega
  have bg : b < w.heap.size := by have := h.bl; have := h.wl; omega
  have hcap : (n : Int) ≤ (cap : Int) := by
    rcases row_shape hr with ⟨h1, -, -⟩ | ⟨g', cap', h1, -, -, h4, -⟩
    · cases h1
    · cases h1
      simp [hl] at h4
      omega
  have H := Lib.hid h
  have HL := Lib.hid hl
  clear h hr a0 a1 a2 el hl
  go_enter Tryz.func120, Tryz.ntmps120
  go_wp2_with fail
  go_ret
  exact ⟨rfl, pop_end H.out HL.out bg _, by simp [World.setCell]; omega, ((Chg.cell (F := fun i => i = b ∨ i = g) w ⟨b, 0, none⟩ _ (.inl rfl)).ex (Ex.made _ _))⟩

/-- The last one of a heap of n + 1, put behind the first n. -/
def popL (l : List (Int × Int × Int)) (n : Nat) : List (Int × Int × Int) := (downL (n + 1) (swp l 0 n) n 0).1

theorem hlast (l : List (Int × Int × Int)) (n : Nat) (h : l.length = n + 1) : l = l.take n ++ [l.getD n zz] := by
  have e1 : l.getD n zz = l[n] := by simp [h]
  rw [e1]
  conv => lhs; rw [← List.take_append_drop n l]
  congr 1
  rw [List.drop_eq_getElem_cons (by omega), List.drop_eq_nil_of_le (by omega)]

set_option maxRecDepth 20000 in
set_option maxHeartbeats 3200000 in
theorem hpop_any {w : World} {k : Int} {base b g cap : Nat} {l : List (Int × Int × Int)} (n : Nat) (h : Sv w base b k (.slice (some ⟨g, 0, none⟩) (n + 1) cap) l) (hl : l.length = n + 1) (hg : g < w.heap.size) (hn : n < 900)
    (p : Int × Int × Int) (hp : (popL l n).getD n zz = p) :
    Calls Tryz.prog 52 #[pS b] w fun e w' => e = .returned (.iface 113 (.agg #[.int .i64 p.1, .int .i64 p.2.1, .int .i64 p.2.2])) ∧
      Sv w' base b k (.slice (some ⟨g, 0, none⟩) n cap) ((popL l n).take n) ∧ g < w'.heap.size ∧ Chg (fun i => i = b ∨ i = g) w w' := by
  unfold pS
  obtain ⟨m, hm⟩ : ∃ m, popL l n = m := ⟨_, rfl⟩
  rw [hm] at hp ⊢
  have HM := Lib.hid hm
  have H := Lib.hid h
  have HL := Lib.hid hl
  have HG := Lib.hid hg
  have HP := Lib.hid hp
  clear hm
  have ml := method_len h.cell
  have ms := method_swap h.cell
  have mp := fun w => method_pop b w
  have q1 : wrap64 (((n + 1 : Nat) : Int) - 1) = (n : Int) := by unfold wrap64; omega
  have q2 : ((n + 1 : Nat) : Int) - 1 = (n : Int) := by omega
  have q3 : wrap64 (n : Int) = (n : Int) := by unfold wrap64; omega
  clear h hl hg hp
  go_enter Tryz.func52, Tryz.ntmps52
  go_wp2_with fail
  refine (mlen_any w (some ⟨g, 0, none⟩) (n + 1) cap).mono ?_
  rintro e w' ⟨rfl, rfl⟩
  go_wp2_with fail
  refine ((H.out.sl HL.out HG.out).swap 0 n (by omega) (by omega)).mono ?_
  rintro e w1 ⟨rfl, h1, hc1⟩
  have H1 := Lib.hid h1
  have V1 := Lib.hid (H.out.back h1 hc1)
  have C1 := Lib.hid hc1
  clear h1 hc1 ml ms
  go_wp2_with fail
  refine (down_any H1.out 0 n (by omega) (by omega) (by omega)).mono ?_
  rintro e w2 ⟨rfl, h2, hc2⟩
  have V2 := Lib.hid (V1.out.back h2 hc2)
  have G2 := Lib.hid h2.gl
  have L2 := Lib.hid h2.len
  have C2 := Lib.hid hc2
  clear h2 hc2
  have hm' : (downL (n + 1) (swp l 0 n) n 0).1 = m := HM.out
  rw [hm'] at V2 L2
  clear hm'
  have e := hlast m n L2.out
  rw [HP.out] at e
  have V3 := V2.out
  rw [e] at V3
  have V4 := Lib.hid V3
  have e3 : (m.take n).length = n := by have := L2.out; simp; omega
  have E3 := Lib.hid e3
  clear e V3 e3
  go_wp2_with fail
  refine (mpop_any n p V4.out E3.out G2.out (by omega)).mono ?_
  rintro e w3 ⟨rfl, h3, hg3, hc3⟩
  have V5 := Lib.hid h3
  have G5 := Lib.hid hg3
  have C5 := Lib.hid hc3
  clear h3 hg3 hc3
  go_wp2_with fail
  go_ret
  refine ⟨rfl, V5.out, G5.out, ?_⟩
  exact ((C1.out.weak (G := fun i => i = b ∨ i = g) (fun i _ hi => .inr hi)).trans C2.out (fun i _ hi => .inr hi)).trans C5.out (fun _ _ h => h)

end Go.Proofs.YtmlobpapjfkbmaaGreat.T13

/- Package timer: Timers. -/
namespace Go.Proofs.YtmlobpapjfkbmaaGreat.T13
open Go.RowKit
set_option linter.unusedVariables false
set_option maxRecDepth 20000

theorem Sv.tick {w : World} {k : Int} {base b : Nat} {v : Value} {l : List (Int × Int × Int)} (h : Sv w base b k v l) (k' : Int) : Sv (w.setCell ⟨b, 1, none⟩ (.int .i64 k')) base b k' v l := by
  have h1 := h.cell
  have h2 := h.mkd
  have h3 := h.soft
  have h4 := h.msoft
  have hs : (w.setCell ⟨b, 1, none⟩ (.int .i64 k')).heap.size = w.heap.size := by simp [World.setCell]
  refine ⟨by go_simp, ownsRow_setCell_below h.row h.bl _, by go_simp, by go_simp, by go_simp, h.bl, by rw [hs]; exact h.wl⟩
theorem Sv.ex {w w' : World} {k : Int} {base b : Nat} {v : Value} {l : List (Int × Int × Int)} (h : Sv w base b k v l) (x : Ex w w') : Sv w' base b k v l := by
  have hb : b < w.heap.size := by have := h.bl; have := h.wl; omega
  exact ⟨cell_later x h.cell, row_chg (F := fun _ => False) h.row (x.chg _) (fun _ _ h => h), (x.frozen (p := ⟨b, 0, none⟩) hb).trans h.soft, cell_later x h.mkd, (x.frozen (p := ⟨b, 1, none⟩) hb).trans h.msoft, h.bl, Nat.le_trans h.wl x.size⟩

theorem new_any (w : World) : Calls Tryz.prog 21 #[] w fun e w' => e = .returned (.pointer (some ⟨w.heap.size, 0, none⟩)) ∧ Sv w' (w.heap.size + 1) w.heap.size 0 (.slice none 0 0) [] ∧ Ex w w' := by
  go_enter Tryz.func21, Tryz.ntmps21
  go_wp2
  go_ret
  have b := Box.fresh w #[.slice none 0 0, .int .i64 0] 105
  exact ⟨rfl, ⟨b.cell 0, World.ownsRow_nil _ _ _ _, b.soft 0, b.cell 1, b.soft 1, by omega, by simp⟩, Ex.made _ _⟩

theorem tlen_any {w : World} {k : Int} {base b n cap : Nat} {a : Option Addr} {l : List (Int × Int × Int)} (h : Sv w base b k (.slice a n cap) l) :
    Calls Tryz.prog 51 #[.pointer (some ⟨b, 0, none⟩)] w fun e w' => e = .returned (.int .i64 (n : Nat)) ∧ w = w' := by
  have c0 := h.cell
  clear h
  go_enter Tryz.func51, Tryz.ntmps51
  go_wp2
  go_ret
  exact ⟨rfl, rfl⟩
theorem tlen_nil (w : World) :
    Calls Tryz.prog 51 #[.pointer none] w fun e w' => e = .returned (.int .i64 0) ∧ w = w' := by
  go_enter Tryz.func51, Tryz.ntmps51
  go_wp2
  go_ret
  exact ⟨rfl, rfl⟩

set_option maxRecDepth 20000 in
set_option maxHeartbeats 1600000 in
theorem tadd_nil (w : World) (when g : Int) :
    Calls Tryz.prog 84 #[.pointer none, .int .i64 when, .int .i64 g] w fun e w' => e = .returned (.tuple #[]) ∧ w = w' := by
  go_enter Tryz.func84, Tryz.ntmps84
  go_wp2_with fail
  exact Go.Great.bodyPost_end0 rfl rfl ⟨rfl, rfl⟩

set_option maxRecDepth 20000 in
set_option maxHeartbeats 3200000 in
theorem tadd_any {w : World} {k : Int} {base b : Nat} {v : Value} {l : List (Int × Int × Int)} (h : Sv w base b k v l) (when gg : Int) (n : Nat) (hl : l.length = n) (hn : n < 1000) (hk : 0 ≤ k ∧ k < 1000000) :
    Calls Tryz.prog 84 #[.pointer (some ⟨b, 0, none⟩), .int .i64 when, .int .i64 gg] w fun e w' => e = .returned (.tuple #[]) ∧
      (∃ g cap, Sv w' base b (k + 1) (.slice (some ⟨g, 0, none⟩) (n + 1) cap) (upL (n + 1) (l ++ [(when, gg, k + 1)]) n) ∧ g < w'.heap.size ∧ (v.ownBlock = some g ∨ w.heap.size ≤ g)) ∧ Chg (OB b v) w w' := by
  obtain ⟨k1, k2⟩ := hk
  have c1 := h.mkd
  have f1 := h.msoft
  have H := Lib.hid h
  clear h
  go_enter Tryz.func84, Tryz.ntmps84
  go_upto_region 2 with fail
  have V1 := Lib.hid (H.out.tick (k + 1))
  have C1 : Hid (Chg (OB b v) w (w.setCell ⟨b, 1, none⟩ (.int .i64 (k + 1)))) := Lib.hid (Chg.cell (F := OB b v) w ⟨b, 1, none⟩ _ (.inl rfl))
  clear c1 f1
  generalize (w.setCell ⟨b, 1, none⟩ (.int .i64 (k + 1))) = W at *
  refine wp_region_still_tail 13 (by kernel_rfl) (by kernel_rfl) ?_
  simp only [List.take_succ_cons, List.take_zero, List.drop_succ_cons, List.drop_zero]
  rw [show ({ W with drawn := W.drawn + 1 } : World) = W.drew from rfl]
  have V2 := Lib.hid (V1.out.ex (Ex.drawn W 1))
  have C2 := Lib.hid (C1.out.ex (Ex.drawn W 1))
  replace V2 : Hid (Sv W.drew base b (k + 1) v l) := V2
  replace C2 : Hid (Chg (OB b v) w W.drew) := C2
  clear V1 C1
  generalize W.drew = V at *
  have c2 := V2.out.mkd
  repeat still_step
  try refine wpStill_nil ?_
  have K1 := hpush_any V2.out (when, gg, k + 1) n hl hn
  go_wp2_with fail
  refine K1.mono ?_
  rintro e w2 ⟨rfl, ⟨g, cap, h2, hg, hat⟩, hc2⟩
  have HAT : Hid (v.ownBlock = some g ∨ w.heap.size ≤ g) := Lib.hid (hat.imp id (fun h => Nat.le_trans C2.out.size h))
  have HG := Lib.hid hg
  clear hat hg
  have H2 := Lib.hid h2
  have C3 := Lib.hid (C2.out.trans hc2 (fun _ _ h => h))
  clear h2 hc2 K1
  go_wp2_with fail
  exact Go.Great.bodyPost_end0 rfl rfl ⟨rfl, ⟨g, cap, H2.out, HG.out, HAT.out⟩, C3.out⟩

/-- All that are due are told. -/
def dueL : Nat → Int → List (Int × Int × Int) → List Int × List (Int × Int × Int)
  | 0, _, l => ([], l)
  | f + 1, now, l => if 0 < l.length ∧ (l.getD 0 zz).1 ≤ now then
      let m := popL l (l.length - 1)
      let r := dueL f now (m.take (l.length - 1))
      ((m.getD (l.length - 1) zz).2.1 :: r.1, r.2)
    else ([], l)

theorem dueL_stop {f : Nat} {now : Int} {l : List (Int × Int × Int)} (h : ¬ (0 < l.length ∧ (l.getD 0 zz).1 ≤ now)) : dueL f now l = ([], l) := by
  cases f with
  | zero => rfl
  | succ f => rw [dueL, if_neg h]

end Go.Proofs.YtmlobpapjfkbmaaGreat.T13

/- Package timer: Due. -/
namespace Go.Proofs.YtmlobpapjfkbmaaGreat.T13
open Go.RowKit
set_option linter.unusedVariables false
set_option maxRecDepth 20000

theorem info_int : (Tryz.prog.info? 3).map (fun i => (i.zero, i.size, i.bytes)) = some (some (.int .i64 0), 1, 8) := by kernel_rfl
def intsZ (l : List Int) : List Value := l.map fun n : Int => Value.int .i64 n

def lenOf : Value → Nat
  | .slice _ n _ => n
  | _ => 0
/-- What is left and what is told. -/
def DueIs (w : World) (base b : Nat) (k : Int) (o : Value) (r : List Int × List (Int × Int × Int)) (v : Value) (B : Nat) (w' : World) : Prop :=
  (∃ u, Sv w' base b k u r.2 ∧ (∀ g, u.ownBlock = some g → g < w'.heap.size) ∧ u.ownBlock = o.ownBlock) ∧ w'.ownsRow B 3 1 v r.1.length (intsZ r.1) ∧ Chg (OB b o) w w'

set_option maxRecDepth 20000 in
set_option maxHeartbeats 1600000 in
theorem due_nil (w : World) (now : Int) :
    Calls Tryz.prog 25 #[.pointer none, .int .i64 now] w fun e w' => e = .returned (.slice none 0 0) ∧ Ex w w' := by
  go_enter Tryz.func25, Tryz.ntmps25
  go_wp2_with fail
  refine wp_loop_rounds 1 ?_; rw [rounds_succ]
  go_wp2_with fail
  refine (tlen_nil w).mono ?_
  rintro e w' ⟨rfl, rfl⟩
  go_wp2_with fail
  go_ret
  exact ⟨rfl, Ex.refl _⟩

theorem dueL_go {f n : Nat} {now : Int} {m : List (Int × Int × Int)} (hn : m.length = n + 1) (hf : 0 < f) (h : (m.getD 0 zz).1 ≤ now) :
    dueL f now m = (((popL m n).getD n zz).2.1 :: (dueL (f - 1) now ((popL m n).take n)).1, (dueL (f - 1) now ((popL m n).take n)).2) := by
  cases f with
  | zero => omega
  | succ f =>
    rw [dueL, if_pos ⟨by omega, h⟩, show m.length - 1 = n by omega]
    rfl
theorem row_base {w : World} {base : Nat} {e : TypeId} {size : Nat} {v : Value} {n : Nat} {xs : List Value} (h : w.ownsRow base e size v n xs) (i : Nat) (hi : v.ownBlock = some i) : base ≤ i := by
  rcases row_shape h with ⟨h1, -, -⟩ | ⟨g, cap, h1, h2, -⟩
  · subst h1; cases hi
  · subst h1; cases hi; exact h2
theorem Sv.chg {w w' : World} {k : Int} {base b : Nat} {v : Value} {l : List (Int × Int × Int)} {F : Nat → Prop} (h : Sv w base b k v l) (x : Chg F w w') (h1 : ¬ F b) (h2 : ∀ g, v.ownBlock = some g → ¬ F g) : Sv w' base b k v l := by
  have hb : w'.heap[b]? = w.heap[b]? := x.block b (by have := h.bl; have := h.wl; omega) h1
  refine ⟨?_, row_chg h.row x h2, ?_, ?_, ?_, h.bl, Nat.le_trans h.wl x.size⟩
  · have := h.cell
    simp only [World.cell?, hb] at this ⊢
    exact this
  · have := h.soft
    simp only [World.frozen?, hb] at this ⊢
    exact this
  · have := h.mkd
    simp only [World.cell?, hb] at this ⊢
    exact this
  · have := h.msoft
    simp only [World.frozen?, hb] at this ⊢
    exact this

set_option maxRecDepth 20000 in
set_option maxHeartbeats 3200000 in
theorem due_any {w : World} {k : Int} {base b : Nat} {v : Value} {l : List (Int × Int × Int)} (h : Sv w base b k v l) (hv : ∀ g, v.ownBlock = some g → g < w.heap.size) (now : Int) (hn : l.length < 900) :
    Calls Tryz.prog 25 #[.pointer (some ⟨b, 0, none⟩), .int .i64 now] w fun e w' => ∃ u, e = .returned u ∧ DueIs w base b k v (dueL (l.length + 1) now l) u w.heap.size w' := by
  have H := Lib.hid h
  have HV := Lib.hid hv
  clear h hv
  go_enter Tryz.func25, Tryz.ntmps25
  go_wp2_with fail
  go_loopw [5] (fun ov wr => ∃ (f : Nat) (m : List (Int × Int × Int)) (xs : List Int) (u : Value), m.length < f ∧ xs.length + m.length = l.length ∧ Sv wr base b k u m ∧ (∀ g, u.ownBlock = some g → g < wr.heap.size) ∧ u.ownBlock = v.ownBlock ∧ wr.ownsRow w.heap.size 3 1 ov xs.length (intsZ xs) ∧ Chg (OB b v) w wr ∧
    (xs ++ (dueL f now m).1, (dueL f now m).2) = dueL (l.length + 1) now l) (fun ov _ => l.length - lenOf ov)
  case atStart => exact ⟨l.length + 1, l, [], v, by omega, by simp, H.out, HV.out, rfl, World.ownsRow_nil _ _ _ _, Chg.refl _ _, by simp⟩
  case round =>
    obtain ⟨f, m, xs, u, hf, hlen, hs, hu, hne, hx, hc, he⟩ := hrel
    obtain ⟨a, cap, rfl⟩ : ∃ a cap, u = .slice a m.length cap := by
      rcases row_shape hs.row with ⟨h1, h2, -⟩ | ⟨g, cap, h1, -⟩
      · exact ⟨none, 0, by rw [h1, h2]⟩
      · exact ⟨_, cap, h1⟩
    have c0 := hs.cell
    have HS := Lib.hid hs
    have HU := Lib.hid hu
    have HX := Lib.hid hx
    have HC := Lib.hid hc
    have HE := Lib.hid he
    have HNE := Lib.hid hne
    have fin : ¬ (0 < m.length ∧ (m.getD 0 zz).1 ≤ now) → DueIs w base b k v (dueL (l.length + 1) now l) u5 w.heap.size wr := by
      intro h
      rw [← HE.out, dueL_stop h]
      simp only [List.append_nil]
      exact ⟨⟨_, HS.out, HU.out, HNE.out⟩, HX.out, HC.out⟩
    have FIN := Lib.hid fin
    clear hs hu hx hc he fin hne
    by_cases h0 : m.length = 0
    · have K1 := Lib.hid (tlen_any HS.out)
      rw [h0] at K1
      go_wp2_with fail
      refine K1.out.mono ?_
      rintro e w' ⟨rfl, rfl⟩
      go_wp2_with fail
      go_ret
      exact ⟨_, rfl, FIN.out (by omega)⟩
    · obtain ⟨n, hn'⟩ : ∃ n, m.length = n + 1 := ⟨m.length - 1, by omega⟩
      have hn2 := hn'
      rw [hn'] at c0 HS
      obtain ⟨g, rfl⟩ : ∃ g, a = some ⟨g, 0, none⟩ := by
        rcases row_shape HS.out.row with ⟨h1, -⟩ | ⟨g, cap', h1, -⟩
        · simp at h1
        · simp only [Value.slice.injEq] at h1
          exact ⟨g, h1.1⟩
      have hr : Row3 wr base (.slice (some ⟨g, 0, none⟩) m.length cap) m := by rw [hn2]; exact HS.out.row
      obtain ⟨a0, a1, a2⟩ := cells3_at m 0 (by omega)
      have x0 := hr.cell _ _ a0
      rw [Nat.zero_mul] at x0
      obtain ⟨t, ht⟩ : ∃ t, (m.getD 0 zz).1 = t := ⟨_, rfl⟩
      have e0 : m[0].1 = t := by rw [← ht]; simp [hn2]
      rw [e0] at x0
      have HT := Lib.hid ht
      have HN := Lib.hid hn2
      clear hr a0 a1 a2 ht e0 hn2 hn' h0
      by_cases hle : t ≤ now
      · have K1 := Lib.hid (tlen_any HS.out)
        have e1 : decide (t ≤ now) = true := by simpa using hle
        have e2 : (0 : Int) < ((n + 1 : Nat) : Int) := by omega
        obtain ⟨p, hp⟩ : ∃ p, (popL m n).getD n zz = p := ⟨_, rfl⟩
        have K2 := Lib.hid (hpop_any n HS.out HN.out (HU.out g (by rfl)) (by have := HN.out; omega) p hp)
        have HP := Lib.hid hp
        clear hp
        obtain ⟨p1, p2, p3⟩ := p
        have hta : ∀ (w : World) (x : Value), (Instr.typeAssert (.iface 113 x) 20 113 false).run Tryz.prog w = .ok x w := fun _ _ => by kernel_rfl
        have hf1 : ∀ (w : World), (Instr.field 113 (.agg #[.int .i64 p1, .int .i64 p2, .int .i64 p3]) 0).run Tryz.prog w = .ok (.agg #[.int .i64 p1, .int .i64 p2]) w := fun _ => by kernel_rfl
        have hf2 : ∀ (w : World), (Instr.field 111 (.agg #[.int .i64 p1, .int .i64 p2]) 1).run Tryz.prog w = .ok (.int .i64 p2) w := fun _ => by kernel_rfl
        go_wp2_with fail
        refine K1.out.mono ?_
        rintro e w' ⟨rfl, rfl⟩
        go_wp2_with fail
        refine K2.out.mono ?_
        rintro e w2 ⟨rfl, h2, hg2, hc2⟩
        have H2 := Lib.hid h2
        have G2 := Lib.hid hg2
        have C2 := Lib.hid hc2
        clear h2 hg2 hc2
        have htl : ((popL m n).take n).length = n := by
          rcases row_shape H2.out.row with ⟨h1, -⟩ | ⟨g2, cap2, h1, -⟩
          · simp at h1
          · simp only [Value.slice.injEq] at h1
            exact h1.2.1.symm
        have hgv : v.ownBlock = some g := HNE.out.symm
        have hgw : g < w.heap.size := HV.out g hgv
        have hbw : b < w.heap.size := by have := H.out.bl; have := H.out.wl; omega
        have HO : Hid (w2.ownsRow w.heap.size 3 1 u5 xs.length (intsZ xs)) := Lib.hid (row_chg HX.out C2.out (fun g' hg' hh => by
          have := row_base HX.out g' hg'
          rcases hh with rfl | rfl <;> omega))
        have hws : w.heap.size ≤ w2.heap.size := Nat.le_trans HC.out.size C2.out.size
        have HGV := Lib.hid hgv
        clear hgv
        obtain ⟨i0, hi, hz0, hz1, hz2⟩ := info_parts info_int
        have hxl : xs.length < 900 := by omega
        go_wp2_with (at_builtin; refine wpList_append_mine _ rfl (.tmp 21) (.tmp 30) 37 rfl w.heap.size 3 i0 (.int .i64 0) 1 8 Tryz.underlying37 hi hz0 hz1 hz2 rfl (by decide) _ _ _ rfl (HO.out.alloc _) ⟨w2.heap.size, 0, none⟩ 1 1 [.int .i64 p2] rfl rfl (one_new _ _ _) (one_cell rfl) (by unfold maxLen; omega) (by omega) (row_alloc_base w2 _ hws) (by omega) ?_)
        intro g' cap' w3 hown hgrow hor hbg hlt' hc1 hc2
        have HO3 := Lib.hid hown
        have HOR := Lib.hid hor
        have C3 : Hid (Chg (fun i => u5.ownBlock = some i) w2 w3) := Lib.hid (Chg.trans ((Ex.made w2 _).chg (fun i => u5.ownBlock = some i)) (Chg.grown (F := fun i => u5.ownBlock = some i) hgrow (fun i hi => hi)) (fun _ _ h => h))
        clear hown hgrow hor
        go_wp2_with fail
        go_roundw
        case rel =>
          refine ⟨f - 1, (popL m n).take n, xs ++ [p2], .slice (some ⟨g, 0, none⟩) n cap, ?_, ?_, H2.out.chg C3.out ?_ ?_, ?_, HGV.out.symm, ?_, ?_, ?_⟩
          · have := List.length_take_le n (popL m n); have := HN.out; omega
          · have := HN.out; simp only [List.length_append, List.length_singleton]; omega
          · intro hb
            have := row_base HX.out b hb
            omega
          · intro g1 hg1 hg2
            cases hg1
            have := row_base HX.out g hg2
            omega
          · intro g1 hg1
            cases hg1
            exact Nat.lt_of_lt_of_le G2.out C3.out.size
          · rw [List.length_append, show intsZ (xs ++ [p2]) = intsZ xs ++ [.int .i64 p2] by simp [intsZ]]
            exact HO3.out
          · refine (HC.out.trans C2.out (fun i _ hi => ?_)).trans C3.out (fun i hlt hi => ?_)
            · rcases hi with rfl | rfl
              · exact .inl rfl
              · exact .inr HGV.out
            · have := row_base HX.out i hi
              omega
          · rw [← HE.out]
            have := dueL_go (f := f) (now := now) (m := m) (n := n) HN.out (by have := HN.out; omega) (by rw [HT.out]; exact hle)
            rw [this, HP.out]
            simp
        case measure =>
          have := HN.out
          rw [show lenOf (.slice (some ⟨g', 0, none⟩) (xs.length + 1) cap') = xs.length + 1 from rfl]
          have : lenOf u5 = xs.length := by
            rcases row_shape HX.out with ⟨h1, -, h3⟩ | ⟨g2, cap2, h1, -⟩
            · subst h1
              have : xs.length = 0 := by
                have := congrArg List.length h3
                simpa [intsZ] using this
              rw [this]; rfl
            · subst h1; rfl
          omega
      · have K1 := Lib.hid (tlen_any HS.out)
        have e1 : decide (t ≤ now) = false := by simp; omega
        have e2 : (0 : Int) < ((n + 1 : Nat) : Int) := by omega
        go_wp2_with fail
        refine K1.out.mono ?_
        rintro e w' ⟨rfl, rfl⟩
        go_wp2_with fail
        go_ret
        exact ⟨_, rfl, FIN.out (by rw [HT.out]; omega)⟩

end Go.Proofs.YtmlobpapjfkbmaaGreat.T13

/- What Due tells, in plain Lean. -/
namespace Go.Proofs.YtmlobpapjfkbmaaGreat.T13
set_option linter.unusedVariables false
set_option maxRecDepth 20000

theorem swp_perm (l : List T3) (i j : Nat) (hi : i < l.length) (hj : j < l.length) : (swp l i j).Perm l := by
  unfold swp
  rw [show l.getD j zz = l[j] by simp [hj], show l.getD i zz = l[i] by simp [hi]]
  exact List.set_set_perm hi hj

theorem up_perm : ∀ (f : Nat) (l : List T3) (j : Nat), j < l.length → (upL f l j).Perm l
  | 0, l, j, h => List.Perm.refl _
  | f + 1, l, j, h => by
    unfold upL
    by_cases h0 : (j - 1) / 2 = j ∨ ¬ ord (l.getD j zz) (l.getD ((j - 1) / 2) zz) < 0
    · rw [if_pos h0]
    · rw [if_neg h0]
      exact (up_perm f _ _ (by rw [swp_length]; omega)).trans (swp_perm l _ _ (by omega) h)

theorem down_perm : ∀ (f : Nat) (l : List T3) (N i : Nat), N ≤ l.length → i < l.length → (downL f l N i).1.Perm l
  | 0, l, N, i, h, hi => List.Perm.refl _
  | f + 1, l, N, i, h, hi => by
    rw [downL]
    by_cases h0 : N ≤ 2 * i + 1
    · rw [if_pos h0]
    · rw [if_neg h0]
      obtain ⟨k1, -⟩ := kid_is l N i h0
      by_cases h1 : ord (l.getD (kid l N i) zz) (l.getD i zz) < 0
      · rw [if_pos h1]
        exact (down_perm f _ N _ (by rw [swp_length]; omega) (by rw [swp_length]; omega)).trans (swp_perm l _ _ hi (by omega))
      · rw [if_neg h1]

theorem add_heap {l : List T3} (h : Hp l l.length) (p : T3) : Hp (upL (l.length + 1) (l ++ [p]) l.length) (l.length + 1) := by
  have := up_heap (l.length + 1) (l ++ [p]) l.length (by omega) (by simp) ?_
  · rwa [List.length_append] at this
  · rw [List.length_append]
    have e : ∀ i, i < l.length → at3 (l ++ [p]) i = at3 l i := by
      intro i hi
      unfold at3
      simp [List.getD, List.getElem?_append, hi]
    constructor
    · intro i i1 i2 i3
      simp at i2
      rw [e i (by omega), e _ (by omega)]
      exact h i i1 (by omega)
    · intro i i1 i2 i3 i4
      simp at i2
      omega

theorem pop_is (l : List T3) (n : Nat) (hl : l.length = n + 1) (h : Hp l (n + 1)) :
    at3 (popL l n) n = at3 l 0 ∧ Hp (popL l n) n ∧ (popL l n).length = n + 1 ∧ ((popL l n).take n ++ [at3 l 0]).Perm l := by
  have hs := swp_length l 0 n
  have hp : (popL l n).Perm l := (down_perm (n + 1) _ n 0 (by omega) (by omega)).trans (swp_perm l 0 n (by omega) (by omega))
  have hlen : (popL l n).length = n + 1 := by rw [hp.length_eq, hl]
  have htop : at3 (popL l n) n = at3 l 0 := by
    unfold popL
    by_cases h0 : n = 0
    · subst h0
      rw [down_end (by omega), at_swp _ _ _ _ (by omega) (by omega), if_pos rfl]
    · rw [down_far _ _ _ _ _ (Nat.le_refl _) (by omega) (by omega), at_swp _ _ _ _ (by omega) (by omega), if_pos rfl]
  refine ⟨htop, ?_, hlen, ?_⟩
  · refine down_heap (n + 1) _ n 0 (by omega) (by omega) (by omega) ⟨?_, fun c c1 c2 c3 c4 => by omega⟩
    intro c c1 c2 c3
    rw [at_swp _ _ _ _ (by omega) (by omega), at_swp _ _ _ _ (by omega) (by omega), if_neg (by omega), if_neg (by omega), if_neg (by omega), if_neg c3]
    exact h c c1 (by omega)
  · have e := hlast (popL l n) n hlen
    have : (popL l n).getD n zz = at3 l 0 := htop
    rw [this] at e
    rw [← e]
    exact hp

theorem Hp.take {l : List T3} {n : Nat} (h : Hp l n) (hn : n ≤ l.length) : Hp (l.take n) n := by
  intro i i1 i2
  have e : ∀ k, k < n → at3 (l.take n) k = at3 l k := by
    intro k hk
    unfold at3
    simp [List.getD, hk]
  rw [e i i2, e _ (by omega)]
  exact h i i1 i2

/-- What is told, and what is left. -/
def dueT : Nat → Int → List T3 → List T3 × List T3
  | 0, _, l => ([], l)
  | f + 1, now, l => if 0 < l.length ∧ (at3 l 0).1 ≤ now then
      let r := dueT f now ((popL l (l.length - 1)).take (l.length - 1))
      (at3 l 0 :: r.1, r.2)
    else ([], l)

theorem dueT_is : ∀ (f : Nat) (now : Int) (l : List T3), Hp l l.length → dueL f now l = ((dueT f now l).1.map (fun p => p.2.1), (dueT f now l).2)
  | 0, now, l, h => rfl
  | f + 1, now, l, h => by
    rw [dueL, dueT]
    by_cases h0 : 0 < l.length ∧ (at3 l 0).1 ≤ now
    · obtain ⟨p1, p2, p3, p4⟩ := pop_is l (l.length - 1) (by omega) (by rwa [show l.length - 1 + 1 = l.length by omega])
      rw [if_pos h0, if_pos (show 0 < l.length ∧ (l.getD 0 zz).1 ≤ now from h0)]
      have hl : ((popL l (l.length - 1)).take (l.length - 1)).length = l.length - 1 := by rw [List.length_take]; omega
      have ih := dueT_is f now ((popL l (l.length - 1)).take (l.length - 1)) (by rw [hl]; exact p2.take (by omega))
      dsimp only
      rw [ih, show (popL l (l.length - 1)).getD (l.length - 1) zz = at3 l 0 from p1]
      rfl
    · rw [if_neg h0, if_neg (show ¬ (0 < l.length ∧ (l.getD 0 zz).1 ≤ now) from h0)]
      rfl

/-- The laws of what is told. -/
theorem dueT_laws : ∀ (f : Nat) (now : Int) (l : List T3), Hp l l.length → l.length < f →
    ((dueT f now l).1 ++ (dueT f now l).2).Perm l ∧ Hp (dueT f now l).2 (dueT f now l).2.length ∧ (∀ p ∈ (dueT f now l).1, p.1 ≤ now) ∧ (∀ p ∈ (dueT f now l).2, now < p.1) ∧
      (dueT f now l).1.Pairwise (fun p q => ¬ lt3 q p)
  | 0, now, l, h, hf => by omega
  | f + 1, now, l, h, hf => by
    have top : ∀ p ∈ l, ¬ lt3 p (at3 l 0) := by
      intro p hp
      obtain ⟨i, hi, rfl⟩ := List.getElem_of_mem hp
      have := h.top i hi
      rwa [show at3 l i = l[i] by simp [at3, hi]] at this
    rw [dueT]
    by_cases h0 : 0 < l.length ∧ (at3 l 0).1 ≤ now
    · obtain ⟨p1, p2, p3, p4⟩ := pop_is l (l.length - 1) (by omega) (by rwa [show l.length - 1 + 1 = l.length by omega])
      rw [if_pos h0]
      have hl : ((popL l (l.length - 1)).take (l.length - 1)).length = l.length - 1 := by rw [List.length_take]; omega
      obtain ⟨a, b, c, d, e⟩ := dueT_laws f now ((popL l (l.length - 1)).take (l.length - 1)) (by rw [hl]; exact p2.take (by omega)) (by omega)
      dsimp only
      have hperm : (at3 l 0 :: ((dueT f now ((popL l (l.length - 1)).take (l.length - 1))).1 ++ (dueT f now ((popL l (l.length - 1)).take (l.length - 1))).2)).Perm l :=
        (List.Perm.cons _ a).trans ((List.perm_append_comm (l₁ := [at3 l 0])).trans p4)
      refine ⟨hperm, b, ?_, d, ?_⟩
      · intro p hp
        rcases List.mem_cons.1 hp with rfl | hp
        · exact h0.2
        · exact c p hp
      · refine List.Pairwise.cons ?_ e
        intro q hq
        exact top q (hperm.mem_iff.1 (by simp [hq]))
    · rw [if_neg h0]
      refine ⟨List.Perm.refl _, h, by simp, ?_, List.Pairwise.nil⟩
      intro p hp
      have := top p hp
      have h1 : 0 < l.length := List.length_pos_of_mem hp
      unfold lt3 at this
      by_cases h2 : now < p.1
      · exact h2
      · exact absurd ⟨h1, by omega⟩ h0

end Go.Proofs.YtmlobpapjfkbmaaGreat.T13

/- Sleepers as a sorted list: plain Lean. -/
namespace Go.Proofs.YtmlobpapjfkbmaaGreat.T13
set_option linter.unusedVariables false
set_option maxRecDepth 20000

structure Srt (l s : List T3) : Prop where
  perm : s.Perm l
  sorted : s.Pairwise (fun p q => ¬ lt3 q p)

/-- The heap m is the sorted list S; of k that were made. -/
structure Abs (m S : List T3) (k : Nat) : Prop where
  heap : Hp m m.length
  srt : Srt m S
  nd : (m.map (fun p => p.2.2)).Nodup
  bd : ∀ p ∈ m, 1 ≤ p.2.2 ∧ p.2.2 ≤ (k : Int)

theorem Abs.nil : Abs [] [] 0 := ⟨fun i h1 h2 => absurd h2 (Nat.not_lt_zero i), ⟨List.Perm.refl _, List.Pairwise.nil⟩, List.nodup_nil, fun p hp => by cases hp⟩
theorem Abs.len {m S : List T3} {k : Nat} (h : Abs m S k) : S.length = m.length := h.srt.perm.length_eq
theorem Abs.mem {m S : List T3} {k : Nat} (h : Abs m S k) {p : T3} : p ∈ S ↔ p ∈ m := h.srt.perm.mem_iff

theorem inj_of_nd {m : List T3} (nd : (m.map (fun p => p.2.2)).Nodup) : ∀ p ∈ m, ∀ q ∈ m, p.2.2 = q.2.2 → p = q := by
  induction m with
  | nil => intro p hp; cases hp
  | cons a m ih =>
    simp only [List.map_cons, List.nodup_cons] at nd
    obtain ⟨n1, n2⟩ := nd
    intro p hp q hq e
    rcases List.mem_cons.1 hp with rfl | hp' <;> rcases List.mem_cons.1 hq with rfl | hq'
    · rfl
    · exact absurd (List.mem_map.2 ⟨q, hq', e.symm⟩) n1
    · exact absurd (List.mem_map.2 (⟨p, hp', e⟩ : ∃ a, a ∈ m ∧ a.2.2 = q.2.2)) n1
    · exact ih n2 p hp' q hq' e

/-- Sorted lists of the same ones are one. -/
theorem srt_uniq {a b m : List T3} (nd : (m.map (fun p => p.2.2)).Nodup) (ha : Srt m a) (hb : Srt m b) : a = b := by
  refine List.Perm.eq_of_pairwise ?_ ha.sorted hb.sorted (ha.perm.trans hb.perm.symm)
  intro p q hp hq h1 h2
  refine inj_of_nd nd p (ha.perm.mem_iff.1 hp) q (hb.perm.mem_iff.1 hq) ?_
  unfold lt3 at h1 h2
  omega

/-- One put in behind all that are not later. -/
def insT (p : T3) : List T3 → List T3
  | [] => [p]
  | q :: l => if p.1 < q.1 then p :: q :: l else q :: insT p l
theorem insT_perm (p : T3) : ∀ l, (insT p l).Perm (l ++ [p])
  | [] => List.Perm.refl _
  | q :: l => by
    unfold insT
    by_cases h : p.1 < q.1
    · rw [if_pos h]
      exact (List.perm_append_comm (l₁ := [p]) (l₂ := q :: l))
    · rw [if_neg h]
      exact (insT_perm p l).cons q
theorem insT_sorted (p : T3) : ∀ l : List T3, l.Pairwise (fun p q => ¬ lt3 q p) → (∀ q ∈ l, q.2.2 < p.2.2) → (insT p l).Pairwise (fun p q => ¬ lt3 q p)
  | [], _, _ => by simp [insT]
  | q :: l, h, hs => by
    rw [List.pairwise_cons] at h
    obtain ⟨h1, h2⟩ := h
    unfold insT
    by_cases hp : p.1 < q.1
    · rw [if_pos hp, List.pairwise_cons]
      refine ⟨?_, List.pairwise_cons.2 ⟨h1, h2⟩⟩
      intro r hr
      rcases List.mem_cons.1 hr with rfl | hr
      · unfold lt3; omega
      · have := h1 r hr
        unfold lt3 at this ⊢
        omega
    · rw [if_neg hp, List.pairwise_cons]
      refine ⟨?_, insT_sorted p l h2 (fun r hr => hs r (by simp [hr]))⟩
      intro r hr
      rcases List.mem_append.1 ((insT_perm p l).mem_iff.1 hr) with hr | hr
      · exact h1 r hr
      · simp at hr
        subst hr
        have := hs q (by simp)
        unfold lt3
        omega

theorem Abs.add {m S : List T3} {k : Nat} (h : Abs m S k) (when g : Int) (n : Nat) (hn : m.length = n) :
    Abs (upL (n + 1) (m ++ [(when, g, (k : Int) + 1)]) n) (insT (when, g, (k : Int) + 1) S) (k + 1) := by
  subst hn
  have hp := up_perm (m.length + 1) (m ++ [(when, g, (k : Int) + 1)]) m.length (by simp)
  refine ⟨?_, ⟨?_, ?_⟩, ?_, ?_⟩
  · have := add_heap h.heap (when, g, (k : Int) + 1)
    rw [hp.length_eq, List.length_append]
    exact this
  · exact ((insT_perm _ S).trans (h.srt.perm.append_right _)).trans hp.symm
  · refine insT_sorted _ S h.srt.sorted ?_
    intro q hq
    have := h.bd q (h.mem.1 hq)
    dsimp only
    omega
  · rw [(hp.map _).nodup_iff, List.map_append, List.nodup_append]
    refine ⟨h.nd, by simp, ?_⟩
    intro a ha b hb
    obtain ⟨q, hq, rfl⟩ := List.mem_map.1 ha
    have := h.bd q hq
    simp at hb
    omega
  · intro q hq
    rcases List.mem_append.1 (hp.mem_iff.1 hq) with hq | hq
    · have := h.bd q hq
      omega
    · simp at hq
      subst hq
      dsimp only
      omega

theorem Abs.sub {m m' S S' : List T3} {k : Nat} (h : Abs m S k) (hh : Hp m' m'.length) (hs : Srt m' S') (x : List T3) (hx : (x ++ m').Perm m) : Abs m' S' k := by
  refine ⟨hh, hs, ?_, fun p hp => h.bd p (hx.mem_iff.1 (by simp [hp]))⟩
  have := (hx.map (fun p => p.2.2)).nodup_iff.2 h.nd
  rw [List.map_append, List.nodup_append] at this
  exact this.2.1

/-- Who is due, who is left. -/
def dueS (now : Int) (S : List T3) : List T3 := S.filter (fun p => decide (p.1 ≤ now))
def leftS (now : Int) (S : List T3) : List T3 := S.filter (fun p => decide (now < p.1))

theorem Abs.due {m S : List T3} {k : Nat} (h : Abs m S k) (now : Int) (f : Nat) (hf : m.length < f) :
    dueL f now m = ((dueS now S).map (fun p => p.2.1), (dueT f now m).2) ∧ Abs (dueT f now m).2 (leftS now S) k := by
  rw [dueT_is _ _ _ h.heap]
  obtain ⟨a, b, c, d, e⟩ := dueT_laws f now m h.heap hf
  generalize (dueT f now m).1 = D at *
  generalize (dueT f now m).2 = R at *
  have f1 : (D ++ R).filter (fun p => decide (p.1 ≤ now)) = D := by
    rw [List.filter_append, List.filter_eq_self.2 (fun p hp => by simpa using c p hp), List.filter_eq_nil_iff.2 (fun p hp => by simpa using d p hp), List.append_nil]
  have f2 : (D ++ R).filter (fun p => decide (now < p.1)) = R := by
    rw [List.filter_append, (List.filter_eq_nil_iff (l := D)).2 (fun p hp => by simpa using c p hp), List.filter_eq_self.2 (fun p hp => by simpa using d p hp), List.nil_append]
  have p1 : (dueS now S).Perm D := by
    have := (h.srt.perm.trans a.symm).filter (fun p => decide (p.1 ≤ now))
    rwa [f1] at this
  have p2 : (leftS now S).Perm R := by
    have := (h.srt.perm.trans a.symm).filter (fun p => decide (now < p.1))
    rwa [f2] at this
  have nd : ((D ++ R).map (fun p => p.2.2)).Nodup := (a.map _).nodup_iff.2 h.nd
  rw [List.map_append, List.nodup_append] at nd
  have eD : dueS now S = D := srt_uniq nd.1 ⟨p1, h.srt.sorted.filter _⟩ ⟨List.Perm.refl _, e⟩
  exact ⟨by rw [eD], h.sub b ⟨p2, h.srt.sorted.filter _⟩ D a⟩

/-- The first is the top. -/
theorem Abs.top {m S : List T3} {k : Nat} (h : Abs m S k) (h0 : 0 < m.length) : (m.getD 0 zz) = at3 S 0 := by
  have hm : at3 m 0 ∈ m := by simp [at3, h0]
  have hS0 : 0 < S.length := by rw [h.len]; exact h0
  have hs : at3 S 0 ∈ S := by simp [at3, hS0]
  have t1 : ¬ lt3 (at3 S 0) (at3 m 0) := by
    obtain ⟨i, hi, e⟩ := List.getElem_of_mem (h.mem.1 hs)
    have := h.heap.top i hi
    rwa [show at3 m i = m[i] by simp [at3, hi], e] at this
  have t2 : ¬ lt3 (at3 m 0) (at3 S 0) := by
    obtain ⟨j, hj, e⟩ := List.getElem_of_mem (h.mem.2 hm)
    by_cases hj0 : j = 0
    · subst hj0
      have : at3 S 0 = S[0] := by simp [at3, hS0]
      rw [this, e]; unfold lt3; omega
    · have := List.pairwise_iff_getElem.1 h.srt.sorted 0 j hS0 hj (by omega)
      rw [e] at this
      rwa [show at3 S 0 = S[0] by simp [at3, hS0]]
  refine inj_of_nd h.nd _ hm _ (h.mem.1 hs) ?_
  unfold lt3 at t1 t2
  show (at3 m 0).2.2 = _
  omega

end Go.Proofs.YtmlobpapjfkbmaaGreat.T13

/- Package timer by its sorted list: what each call does. -/
namespace Go.Proofs.YtmlobpapjfkbmaaGreat.T13
open Go.RowKit
set_option linter.unusedVariables false
set_option maxRecDepth 20000

theorem Sv.ownlt {w : World} {k : Int} {base b : Nat} {v : Value} {l : List T3} (h : Sv w base b k v l) : ∀ g, v.ownBlock = some g → g < w.heap.size := by
  intro g hg
  rcases row_shape h.row with ⟨rfl, -⟩ | ⟨g', cap, rfl, -, h2, -⟩
  · cases hg
  · cases hg; exact h2

theorem row_val {w : World} {base n : Nat} {e : TypeId} {v : Value} {xs : List Value} {size : Nat} (h : w.ownsRow base e size v n xs) : ∃ a cap, v = .slice a n cap := by
  rcases row_shape h with ⟨h1, h2, -⟩ | ⟨g, cap, h1, -⟩
  · exact ⟨none, 0, by rw [h1, h2]⟩
  · exact ⟨_, cap, h1⟩

/-- The timers in block b: those of S sleep, in their order; k were added; their row lies in the block o. -/
def TS (w : World) (base b : Nat) (o : Option Nat) (k : Nat) (S : List T3) : Prop := ∃ v m, Sv w base b k v m ∧ v.ownBlock = o ∧ Abs m S k
/-- The block and the row's own may turn. -/
def Ob (b : Nat) (o : Option Nat) (i : Nat) : Prop := i = b ∨ o = some i
/-- The same row, or one in a new block. -/
def NewO (w : World) (o o' : Option Nat) : Prop := o' = o ∨ ∃ g, o' = some g ∧ w.heap.size ≤ g

theorem TS.bl {w : World} {base b k : Nat} {o : Option Nat} {S : List T3} (h : TS w base b o k S) : b < base ∧ base ≤ w.heap.size ∧ ∀ g, o = some g → base ≤ g ∧ g < w.heap.size := by
  obtain ⟨v, m, h1, rfl, h2⟩ := h
  exact ⟨h1.bl, h1.wl, fun g hg => ⟨h1.own g hg, h1.ownlt g hg⟩⟩
theorem TS.ex {w w' : World} {base b k : Nat} {o : Option Nat} {S : List T3} (h : TS w base b o k S) (x : Ex w w') : TS w' base b o k S := by
  obtain ⟨v, m, h1, ho, h2⟩ := h
  exact ⟨v, m, h1.ex x, ho, h2⟩
theorem TS.chg {w w' : World} {base b k : Nat} {o : Option Nat} {S : List T3} {F : Nat → Prop} (h : TS w base b o k S) (x : Chg F w w') (h1 : ¬ F b) (h2 : ∀ g, o = some g → ¬ F g) : TS w' base b o k S := by
  obtain ⟨v, m, k1, rfl, k2⟩ := h
  exact ⟨v, m, k1.chg x h1 h2, rfl, k2⟩
theorem TS.fb {w w1 w' : World} {base b k : Nat} {o : Option Nat} {S : List T3} (h : TS w base b o k S) (c : Chg (Ob b o) w1 w') : Chg (FB base b) w1 w' :=
  c.weak (fun i _ hi => hi.imp id (fun e => (h.bl.2.2 i e).1))

def TRow (w : World) (base : Nat) (u : Value) (l : List Int) : Prop := w.ownsRow base 3 1 u l.length (intsZ l)

theorem ts_new (w : World) : Calls Tryz.prog 21 #[] w fun e w' => e = .returned (.pointer (some ⟨w.heap.size, 0, none⟩)) ∧ TS w' (w.heap.size + 1) w.heap.size none 0 [] ∧ Ex w w' :=
  (new_any w).mono fun e w' ⟨h1, h2, h3⟩ => ⟨h1, ⟨_, [], h2, rfl, Abs.nil⟩, h3⟩

def AddS (w : World) (base b : Nat) (o : Option Nat) (k : Nat) (S : List T3) (e : Ending) (w' : World) : Prop :=
  e = .returned (.tuple #[]) ∧ (∃ o', TS w' base b o' k S ∧ NewO w o o') ∧ Chg (Ob b o) w w'

theorem ts_add {w : World} {base b k : Nat} {o : Option Nat} {S : List T3} (h : TS w base b o k S) (hn : S.length < 900) (hk : k < 1000000) (when g : Int) :
    Calls Tryz.prog 84 #[.pointer (some ⟨b, 0, none⟩), .int .i64 when, .int .i64 g] w (AddS w base b o (k + 1) (insT (when, g, (k : Int) + 1) S)) := by
  obtain ⟨v, m, h1, rfl, h2⟩ := h
  have hm := h2.len
  refine (tadd_any h1 when g m.length rfl (by omega) (by omega)).mono ?_
  rintro e w' ⟨rfl, ⟨g', cap, h3, -, h5⟩, h4⟩
  refine ⟨rfl, ⟨_, ⟨_, _, h3, rfl, h2.add when g m.length rfl⟩, ?_⟩, h4⟩
  rcases h5 with h5 | h5
  · exact .inl h5.symm
  · exact .inr ⟨g', rfl, h5⟩

theorem ts_len {w : World} {base b k : Nat} {o : Option Nat} {S : List T3} (h : TS w base b o k S) :
    Calls Tryz.prog 51 #[.pointer (some ⟨b, 0, none⟩)] w fun e w' => e = .returned (.int .i64 (S.length : Nat)) ∧ w = w' := by
  obtain ⟨v, m, h1, -, h2⟩ := h
  obtain ⟨a, cap, rfl⟩ := row_val h1.row
  rw [h2.len]
  exact tlen_any h1

def DueS (w : World) (base b : Nat) (o : Option Nat) (k : Nat) (S : List T3) (now : Int) (e : Ending) (w' : World) : Prop :=
  ∃ u, e = .returned u ∧ TRow w' w.heap.size u ((dueS now S).map (fun p => p.2.1)) ∧ TS w' base b o k (leftS now S) ∧ Chg (Ob b o) w w'

theorem ts_due {w : World} {base b k : Nat} {o : Option Nat} {S : List T3} (h : TS w base b o k S) (hn : S.length < 900) (now : Int) :
    Calls Tryz.prog 25 #[.pointer (some ⟨b, 0, none⟩), .int .i64 now] w (DueS w base b o k S now) := by
  obtain ⟨v, m, h1, rfl, h2⟩ := h
  have hm := h2.len
  refine (due_any h1 h1.ownlt now (by omega)).mono ?_
  rintro e w' ⟨u, rfl, ⟨⟨u2, h3, -, h6⟩, h4, h5⟩⟩
  obtain ⟨k1, k2⟩ := h2.due now (m.length + 1) (by omega)
  rw [k1] at h3 h4
  exact ⟨u, rfl, h4, ⟨_, _, h3, h6, k2⟩, h5⟩

end Go.Proofs.YtmlobpapjfkbmaaGreat.T13

