/- container/heap: Pop. -/
import Derived.Test.YtofdlbnlfeocoaaHeap13
namespace Go.Proofs.Ytofdlbnlfeocoaa
open Go.RowKit
set_option linter.unusedVariables false

theorem pop_end {w : World} {k : Int} {base b g cap n : Nat} {l : List (Int × Int × Int)} {p : Int × Int × Int} (h : Sv w base b k (.slice (some ⟨g, 0, none⟩) (n + 1) cap) (l ++ [p])) (hl : l.length = n) (hb : b < w.heap.size) (o : Obj) :
    Sv ((w.setCell ⟨b, 0, none⟩ (.slice (some ⟨g, 0, none⟩) n cap)).alloc o) base b k (.slice (some ⟨g, 0, none⟩) n cap) l := by
  have hs : (w.setCell ⟨b, 0, none⟩ (.slice (some ⟨g, 0, none⟩) n cap)).heap.size = w.heap.size := by simp [World.setCell]
  have hc : (w.setCell ⟨b, 0, none⟩ (.slice (some ⟨g, 0, none⟩) n cap)).cell? ⟨b, 0, none⟩ = some (.slice (some ⟨g, 0, none⟩) n cap) := by
    have := h.cell
    go_simp
  have hf : (w.setCell ⟨b, 0, none⟩ (.slice (some ⟨g, 0, none⟩) n cap)).frozen? ⟨b, 0, none⟩ = false := by rw [World.frozen?_setCell]; exact h.soft
  have hr : w.ownsRow base 57 3 (.slice (some ⟨g, 0, none⟩) n cap) n (cells3 l) := by
    have := h.row
    unfold Row3 at this
    rw [cells3_append, show (l ++ [p]).length = n + 1 by simp [hl]] at this
    exact ownsRow_pop (by rw [cells3_length, hl]) this
  have hm : (w.setCell ⟨b, 0, none⟩ (.slice (some ⟨g, 0, none⟩) n cap)).cell? ⟨b, 1, none⟩ = some (.int .i64 k) := by
    have := h.mkd
    go_simp
  have hmf : (w.setCell ⟨b, 0, none⟩ (.slice (some ⟨g, 0, none⟩) n cap)).frozen? ⟨b, 1, none⟩ = false := by rw [World.frozen?_setCell]; exact h.msoft
  refine ⟨cell_later (Ex.made _ o) hc, ?_, ((Ex.made _ o).frozen (p := ⟨b, 0, none⟩) (by rw [hs]; exact hb)).trans hf, cell_later (Ex.made _ o) hm, ((Ex.made _ o).frozen (p := ⟨b, 1, none⟩) (by rw [hs]; exact hb)).trans hmf, h.bl, by have := h.wl; simp [hs]; omega⟩
  unfold Row3
  rw [hl]
  exact World.ownsRow.alloc (ownsRow_setCell_below hr h.bl _) o

set_option maxRecDepth 20000 in
set_option maxHeartbeats 3200000 in
theorem mpop_any {w : World} {k : Int} {base b g cap : Nat} {l : List (Int × Int × Int)} (n : Nat) (p : Int × Int × Int) (h : Sv w base b k (.slice (some ⟨g, 0, none⟩) (n + 1) cap) (l ++ [p])) (hl : l.length = n) (hg : g < w.heap.size) (hn : n < 1000) :
    Calls Try.prog 72 #[.pointer (some ⟨b, 0, none⟩)] w fun e w' => e = .returned (.iface 57 (.agg #[.int .i64 p.1, .int .i64 p.2.1, .int .i64 p.2.2])) ∧
      Sv w' base b k (.slice (some ⟨g, 0, none⟩) n cap) l ∧ g < w'.heap.size ∧ Chg (fun i => i = b ∨ i = g) w w' := by
  obtain ⟨p1, p2, p3⟩ := p
  have c0 := h.cell
  have f0 := h.soft
  have hr : Row3 w base (.slice (some ⟨g, 0, none⟩) (l ++ [(p1, p2, p3)]).length cap) (l ++ [(p1, p2, p3)]) := by
    have := h.row
    rw [show (l ++ [(p1, p2, p3)]).length = n + 1 by simp [hl]]
    exact this
  obtain ⟨a0, a1, a2⟩ := cells3_at (l ++ [(p1, p2, p3)]) n (by simp [hl])
  have x0 := hr.cell _ _ a0
  have x1 := hr.cell _ _ a1
  have x2 := hr.cell _ _ a2
  have el : (l ++ [(p1, p2, p3)])[n]'(by simp [hl]) = (p1, p2, p3) := by subst hl; simp
  rw [el] at x0 x1 x2
  dsimp only at x0 x1 x2
  have q1 : ((n + 1 : Nat) : Int) - 1 = (n : Int) := by omega
  have q2 : wrap64 (n : Int) = (n : Int) := by unfold wrap64; omega
  have bg : b < w.heap.size := by have := h.bl; have := h.wl; omega
  have hcap : (n : Int) ≤ (cap : Int) := by
    rcases row_shape hr with ⟨h1, -, -⟩ | ⟨g', cap', h1, -, -, h4, -⟩
    · cases h1
    · cases h1
      simp [hl] at h4
      omega
  have H := Lib.hid h
  have HL := Lib.hid hl
  clear h hr a0 a1 a2 el hl
  go_enter Try.func72, Try.ntmps72
  go_wp2_with fail
  go_ret
  exact ⟨rfl, pop_end H.out HL.out bg _, by simp [World.setCell]; omega, ((Chg.cell (F := fun i => i = b ∨ i = g) w ⟨b, 0, none⟩ _ (.inl rfl)).ex (Ex.made _ _))⟩

/-- The last one of a heap of n + 1, put behind the first n. -/
def popL (l : List (Int × Int × Int)) (n : Nat) : List (Int × Int × Int) := (downL (n + 1) (swp l 0 n) n 0).1

theorem hlast (l : List (Int × Int × Int)) (n : Nat) (h : l.length = n + 1) : l = l.take n ++ [l.getD n zz] := by
  have e1 : l.getD n zz = l[n] := by simp [h]
  rw [e1]
  conv => lhs; rw [← List.take_append_drop n l]
  congr 1
  rw [List.drop_eq_getElem_cons (by omega), List.drop_eq_nil_of_le (by omega)]

set_option maxRecDepth 20000 in
set_option maxHeartbeats 3200000 in
theorem hpop_any {w : World} {k : Int} {base b g cap : Nat} {l : List (Int × Int × Int)} (n : Nat) (h : Sv w base b k (.slice (some ⟨g, 0, none⟩) (n + 1) cap) l) (hl : l.length = n + 1) (hg : g < w.heap.size) (hn : n < 900)
    (p : Int × Int × Int) (hp : (popL l n).getD n zz = p) :
    Calls Try.prog 21 #[pS b] w fun e w' => e = .returned (.iface 57 (.agg #[.int .i64 p.1, .int .i64 p.2.1, .int .i64 p.2.2])) ∧
      Sv w' base b k (.slice (some ⟨g, 0, none⟩) n cap) ((popL l n).take n) ∧ g < w'.heap.size ∧ Chg (fun i => i = b ∨ i = g) w w' := by
  unfold pS
  obtain ⟨m, hm⟩ : ∃ m, popL l n = m := ⟨_, rfl⟩
  rw [hm] at hp ⊢
  have HM := Lib.hid hm
  have H := Lib.hid h
  have HL := Lib.hid hl
  have HG := Lib.hid hg
  have HP := Lib.hid hp
  clear hm
  have ml := method_len h.cell
  have ms := method_swap h.cell
  have mp := fun w => method_pop b w
  have q1 : wrap64 (((n + 1 : Nat) : Int) - 1) = (n : Int) := by unfold wrap64; omega
  have q2 : ((n + 1 : Nat) : Int) - 1 = (n : Int) := by omega
  have q3 : wrap64 (n : Int) = (n : Int) := by unfold wrap64; omega
  clear h hl hg hp
  go_enter Try.func21, Try.ntmps21
  go_wp2_with fail
  refine (mlen_any w (some ⟨g, 0, none⟩) (n + 1) cap).mono ?_
  rintro e w' ⟨rfl, rfl⟩
  go_wp2_with fail
  refine ((H.out.sl HL.out HG.out).swap 0 n (by omega) (by omega)).mono ?_
  rintro e w1 ⟨rfl, h1, hc1⟩
  have H1 := Lib.hid h1
  have V1 := Lib.hid (H.out.back h1 hc1)
  have C1 := Lib.hid hc1
  clear h1 hc1 ml ms
  go_wp2_with fail
  refine (down_any H1.out 0 n (by omega) (by omega) (by omega)).mono ?_
  rintro e w2 ⟨rfl, h2, hc2⟩
  have V2 := Lib.hid (V1.out.back h2 hc2)
  have G2 := Lib.hid h2.gl
  have L2 := Lib.hid h2.len
  have C2 := Lib.hid hc2
  clear h2 hc2
  have hm' : (downL (n + 1) (swp l 0 n) n 0).1 = m := HM.out
  rw [hm'] at V2 L2
  clear hm'
  have e := hlast m n L2.out
  rw [HP.out] at e
  have V3 := V2.out
  rw [e] at V3
  have V4 := Lib.hid V3
  have e3 : (m.take n).length = n := by have := L2.out; simp; omega
  have E3 := Lib.hid e3
  clear e V3 e3
  go_wp2_with fail
  refine (mpop_any n p V4.out E3.out G2.out (by omega)).mono ?_
  rintro e w3 ⟨rfl, h3, hg3, hc3⟩
  have V5 := Lib.hid h3
  have G5 := Lib.hid hg3
  have C5 := Lib.hid hc3
  clear h3 hg3 hc3
  go_wp2_with fail
  go_ret
  refine ⟨rfl, V5.out, G5.out, ?_⟩
  exact ((C1.out.weak (G := fun i => i = b ∨ i = g) (fun i _ hi => .inr hi)).trans C2.out (fun i _ hi => .inr hi)).trans C5.out (fun _ _ h => h)

end Go.Proofs.Ytofdlbnlfeocoaa
