/- container/heap: Pop. -/
import Derived.Test.YthhgpoihkmokcaaDoorHeap31
namespace Go.Proofs.YthhgpoihkmokcaaDoor
open Go.RowKit
set_option linter.unusedVariables false

theorem pop_end {w : World} {base b g cap n : Nat} {l : List Nat} {p : Nat} (h : Sv w base b (.slice (some ⟨g, 0, none⟩) (n + 1) cap) (l ++ [p])) (hl : l.length = n) (hb : b < w.heap.size) :
    Sv (w.setCell ⟨b, 0, none⟩ (.slice (some ⟨g, 0, none⟩) n cap)) base b (.slice (some ⟨g, 0, none⟩) n cap) l := by
  have hs : (w.setCell ⟨b, 0, none⟩ (.slice (some ⟨g, 0, none⟩) n cap)).heap.size = w.heap.size := by simp [World.setCell]
  have hc : (w.setCell ⟨b, 0, none⟩ (.slice (some ⟨g, 0, none⟩) n cap)).cell? ⟨b, 0, none⟩ = some (.slice (some ⟨g, 0, none⟩) n cap) := by
    have := h.cell
    go_simp
  have hf : (w.setCell ⟨b, 0, none⟩ (.slice (some ⟨g, 0, none⟩) n cap)).frozen? ⟨b, 0, none⟩ = false := by rw [World.frozen?_setCell]; exact h.soft
  have hr : w.ownsRow base 23 1 (.slice (some ⟨g, 0, none⟩) n cap) n (cellsF l) := by
    have := h.row
    unfold RowF at this
    rw [cellsF_append, show (l ++ [p]).length = n + 1 by simp [hl]] at this
    exact ownsRow_pop (by rw [cellsF_length, hl, Nat.mul_one]) this
  refine ⟨hc, ?_, hf, h.bl, by have := h.wl; simp [hs]; omega⟩
  unfold RowF
  rw [hl]
  exact ownsRow_setCell_below hr h.bl _

set_option maxRecDepth 20000 in
set_option maxHeartbeats 3200000 in
theorem mpop_any {w : World} {base b g cap : Nat} {l : List Nat} (n : Nat) (p : Nat) (h : Sv w base b (.slice (some ⟨g, 0, none⟩) (n + 1) cap) (l ++ [p])) (hl : l.length = n) (hg : g < w.heap.size) (hn : n < 1000) :
    Calls Tryd.prog 80 #[.pointer (some ⟨b, 0, none⟩)] w fun e w' => e = .returned (.iface 23 (.float .f64 p)) ∧
      Sv w' base b (.slice (some ⟨g, 0, none⟩) n cap) l ∧ g < w'.heap.size ∧ Chg (fun i => i = b ∨ i = g) w w' := by
  have c0 := h.cell
  have f0 := h.soft
  have hr : RowF w base (.slice (some ⟨g, 0, none⟩) (l ++ [p]).length cap) (l ++ [p]) := by
    have := h.row
    rw [show (l ++ [p]).length = n + 1 by simp [hl]]
    unfold RowF at this ⊢
    rw [show (l ++ [p]).length = n + 1 by simp [hl]] at this ⊢
    exact this
  have x0 := hr.cell _ _ (cellsF_at (l ++ [p]) n (by simp [hl]))
  have el : (l ++ [p])[n]'(by simp [hl]) = p := by subst hl; simp
  rw [el] at x0
  have q1 : ((n + 1 : Nat) : Int) - 1 = (n : Int) := by omega
  have q2 : wrap64 (n : Int) = (n : Int) := by unfold wrap64; omega
  have bg : b < w.heap.size := by have := h.bl; have := h.wl; omega
  have hcap : (n : Int) ≤ (cap : Int) := by
    rcases row_shape hr with ⟨h1, -, -⟩ | ⟨g', cap', h1, -, -, h4, -⟩
    · cases h1
    · cases h1
      simp [hl] at h4
      omega
  have H := Lib.hid h
  have HL := Lib.hid hl
  clear h hr el hl
  go_enter Tryd.func80, Tryd.ntmps80
  go_wp2_with fail
  go_ret
  exact ⟨rfl, pop_end H.out HL.out bg, by simp [World.setCell]; omega, (Chg.cell (F := fun i => i = b ∨ i = g) w ⟨b, 0, none⟩ _ (.inl rfl))⟩

/-- The last one of a heap of n + 1, put behind the first n. -/
def popL (l : List (Nat)) (n : Nat) : List (Nat) := (downL (n + 1) (swp l 0 n) n 0).1

theorem hlast (l : List (Nat)) (n : Nat) (h : l.length = n + 1) : l = l.take n ++ [l.getD n zz] := by
  have e1 : l.getD n zz = l[n] := by simp [h]
  rw [e1]
  conv => lhs; rw [← List.take_append_drop n l]
  congr 1
  rw [List.drop_eq_getElem_cons (by omega), List.drop_eq_nil_of_le (by omega)]

set_option maxRecDepth 20000 in
set_option maxHeartbeats 3200000 in
theorem hpop_any {w : World} {base b g cap : Nat} {l : List (Nat)} (n : Nat) (h : Sv w base b (.slice (some ⟨g, 0, none⟩) (n + 1) cap) l) (hl : l.length = n + 1) (hg : g < w.heap.size) (hn : n < 900)
    (p : Nat) (hp : (popL l n).getD n zz = p) :
    Calls Tryd.prog 36 #[pS b] w fun e w' => e = .returned (.iface 23 (.float .f64 p)) ∧
      Sv w' base b (.slice (some ⟨g, 0, none⟩) n cap) ((popL l n).take n) ∧ g < w'.heap.size ∧ Chg (fun i => i = b ∨ i = g) w w' := by
  unfold pS
  obtain ⟨m, hm⟩ : ∃ m, popL l n = m := ⟨_, rfl⟩
  rw [hm] at hp ⊢
  have HM := Lib.hid hm
  have H := Lib.hid h
  have HL := Lib.hid hl
  have HG := Lib.hid hg
  have HP := Lib.hid hp
  clear hm
  have ml := method_len h.cell
  have ms := method_swap h.cell
  have mp := fun w => method_pop b w
  have q1 : wrap64 (((n + 1 : Nat) : Int) - 1) = (n : Int) := by unfold wrap64; omega
  have q2 : ((n + 1 : Nat) : Int) - 1 = (n : Int) := by omega
  have q3 : wrap64 (n : Int) = (n : Int) := by unfold wrap64; omega
  clear h hl hg hp
  go_enter Tryd.func36, Tryd.ntmps36
  go_wp2_with fail
  refine (mlen_any w (some ⟨g, 0, none⟩) (n + 1) cap).mono ?_
  rintro e w' ⟨rfl, rfl⟩
  go_wp2_with fail
  refine ((H.out.sl HL.out HG.out).swap 0 n (by omega) (by omega)).mono ?_
  rintro e w1 ⟨rfl, h1, hc1⟩
  have H1 := Lib.hid h1
  have V1 := Lib.hid (H.out.back h1 hc1)
  have C1 := Lib.hid hc1
  clear h1 hc1 ml ms
  go_wp2_with fail
  refine (down_any H1.out 0 n (by omega) (by omega) (by omega)).mono ?_
  rintro e w2 ⟨rfl, h2, hc2⟩
  have V2 := Lib.hid (V1.out.back h2 hc2)
  have G2 := Lib.hid h2.gl
  have L2 := Lib.hid h2.len
  have C2 := Lib.hid hc2
  clear h2 hc2
  have hm' : (downL (n + 1) (swp l 0 n) n 0).1 = m := HM.out
  rw [hm'] at V2 L2
  clear hm'
  have e := hlast m n L2.out
  rw [HP.out] at e
  have V3 := V2.out
  rw [e] at V3
  have V4 := Lib.hid V3
  have e3 : (m.take n).length = n := by have := L2.out; simp; omega
  have E3 := Lib.hid e3
  clear e V3 e3
  go_wp2_with fail
  refine (mpop_any n p V4.out E3.out G2.out (by omega)).mono ?_
  rintro e w3 ⟨rfl, h3, hg3, hc3⟩
  have V5 := Lib.hid h3
  have G5 := Lib.hid hg3
  have C5 := Lib.hid hc3
  clear h3 hg3 hc3
  go_wp2_with fail
  go_ret
  refine ⟨rfl, V5.out, G5.out, ?_⟩
  exact ((C1.out.weak (G := fun i => i = b ∨ i = g) (fun i _ hi => .inr hi)).trans C2.out (fun i _ hi => .inr hi)).trans C5.out (fun _ _ h => h)

end Go.Proofs.YthhgpoihkmokcaaDoor
