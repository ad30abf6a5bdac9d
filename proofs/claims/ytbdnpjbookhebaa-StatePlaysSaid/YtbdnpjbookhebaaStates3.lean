/- Package state: Move: contracts. -/
import Derived.Test.YtbdnpjbookhebaaStates2
namespace Go.Proofs.Ytbdnpjbookhebaa
open Go.RowKit
set_option linter.unusedVariables false

theorem may_pairs {s t : Nat} (h : mayB s t = true) : (s = 1 ∧ t = 2) ∨ (s = 2 ∧ t = 1) ∨ (s = 2 ∧ t = 3) ∨ (s = 2 ∧ t = 4) ∨ (s = 2 ∧ t = 5) ∨ (s = 3 ∧ t = 1) ∨ (s = 4 ∧ t = 1) := by
  unfold mayB at h
  have := of_decide_eq_true h
  omega

theorem count_move {l : List Nat} {g s t : Nat} (hg : g < l.length) (hs : l.getD g 0 = s) (hst : s ≠ t) (k : Nat) :
    ((l.set g t).count k : Int) = (l.count k : Int) - (if s = k then 1 else 0) + (if t = k then 1 else 0) := by
  have hgs : l[g] = s := by rw [← hs]; simp [hg]
  rw [List.count_set hg, hgs]
  have hpos : s = k → 0 < l.count k := by
    intro e
    rw [← e, ← hgs]
    exact List.count_pos_iff.2 (List.getElem_mem hg)
  by_cases h1 : s = k
  · have := hpos h1
    have h2 : ¬ t = k := by omega
    simp [h1, h2]; omega
  · by_cases h2 : t = k <;> simp [h1, h2]

theorem move_next {w w1 : World} {b r cap : Nat} {l : List Nat} {g s t : Nat} {m : Nat} (h : St w b (.slice (some ⟨r, 0, none⟩) l.length cap) l) (hx : Ex w w1) (hg : g < l.length) (hs : l.getD g 0 = s) (hm : mayB s t = true) :
    Nxt w b (.slice (some ⟨r, 0, none⟩) l.length cap) (l.set g t)
      ((((w1.setCell ⟨b, 1 + s, none⟩ (.int .i64 ((l.count s : Nat) - 1))).setCell ⟨b, 1 + t, none⟩ (.int .i64 ((l.count t : Nat) + 1))).setCell ⟨r, g, none⟩ (.int .i64 (t : Nat))).drewN m) := by
  have h1 := h.ex hx
  have hp := may_pairs hm
  have hbr : b < r := by
    rcases row_shape h.row with ⟨h1, _⟩ | ⟨r', cap', h1, h2, _⟩
    · cases h1
    · cases h1; omega
  have hC : Chg (Of b (.slice (some ⟨r, 0, none⟩) l.length cap)) w w1 := hx.chg _
  refine ⟨_, ⟨?_, ?_, ?_, ?_⟩, ?_, fun k hk => .inl hk⟩
  · have hB := (((h1.box.put (1 + s) (.int .i64 ((l.count s : Nat) - 1))).put (1 + t) (.int .i64 ((l.count t : Nat) + 1))).put_other (b := r) (by omega) g (.int .i64 (t : Nat))).drew m
    have e := fun k => count_move (t := t) hg hs (by omega) k
    have e' : ∀ k, cnt (l.set g t) k = .int .i64 ((l.count k : Int) - (if s = k then 1 else 0) + (if t = k then 1 else 0)) := fun k => congrArg (Value.int .i64) (e k)
    rw [e' 0, e' 1, e' 2, e' 3, e' 4, e' 5]
    rcases hp with ⟨rfl, rfl⟩ | ⟨rfl, rfl⟩ | ⟨rfl, rfl⟩ | ⟨rfl, rfl⟩ | ⟨rfl, rfl⟩ | ⟨rfl, rfl⟩ | ⟨rfl, rfl⟩
    all_goals simpa [cnt] using hB
  · have h2 := ownsRow_setCell_other (ownsRow_setCell_other h1.row (a := ⟨b, 1 + s, none⟩) (by simp [Value.ownBlock]; omega) (.int .i64 ((l.count s : Nat) - 1))) (a := ⟨b, 1 + t, none⟩) (by simp [Value.ownBlock]; omega) (.int .i64 ((l.count t : Nat) + 1))
    have h3 := (h2.stored g (.int .i64 (t : Nat))).1
    have e : ints (l.set g t) = (ints l).set g (.int .i64 (t : Nat)) := by simp [ints, List.map_set]
    rw [e, List.length_set]
    exact h3
  · intro x hx'
    rcases List.mem_or_eq_of_mem_set hx' with h2 | h2
    · exact h.ok x h2
    · omega
  · rw [List.length_set]; exact h.len
  · exact (((hC.trans (Chg.cell _ ⟨b, 1 + s, none⟩ _ (.inl rfl)) (fun i _ hi => hi)).trans (Chg.cell (F := Of b (.slice (some ⟨r, 0, none⟩) l.length cap)) _ ⟨b, 1 + t, none⟩ _ (.inl rfl)) (fun i _ hi => hi)).trans
      (Chg.cell (F := Of b (.slice (some ⟨r, 0, none⟩) l.length cap)) _ ⟨r, g, none⟩ _ (.inr rfl)) (fun i _ hi => hi)).drew m

set_option maxRecDepth 10000 in
set_option maxHeartbeats 1600000 in
theorem move_yes {w : World} {b : Nat} {v : Value} {l : List Nat} (h : St w b v l) (g : Nat) (hg : g < l.length) (s t : Nat) (hs : l.getD g 0 = s) (hm : mayB s t = true) :
    Calls Try.prog 10 #[.pointer (some ⟨b, 0, none⟩), .int .i64 g, .int .i64 t] w fun e w' => e = .returned (.int .i64 0) ∧ Nxt w b v (l.set g t) w' := by
  obtain ⟨a, cap, rfl, h1, h2, hc⟩ := h.slice
  obtain ⟨r, rfl, r1, r2, r3, r4⟩ := hc g hg
  have hp := may_pairs hm
  have b1 : 1 ≤ s ∧ s ≤ 5 ∧ 1 ≤ t ∧ t ≤ 5 ∧ s ≠ t := by omega
  have c0 : w.cell? ⟨b, 0, none⟩ = some (.slice (some ⟨r, 0, none⟩) l.length cap) := h.box.cell 0
  have K1 := Lib.hid (of_in h g hg s hs)
  have K2 := Lib.hid (fun w => may_any (s : Nat) (t : Nat) w)
  rw [hm] at K2
  have H := Lib.hid h
  have HS := Lib.hid hs
  have HM := Lib.hid hm
  have hl := h.len
  rw [hs] at r3
  clear h hc hs hm hp
  obtain ⟨b1, b2, b3, b4, b5⟩ := b1
  go_enter Try.func10, Try.ntmps10
  go_wp2_with fail
  refine K1.out.mono ?_
  rintro e w' ⟨rfl, rfl⟩
  go_wp2_with fail
  refine (K2.out _).mono ?_
  rintro e w1 ⟨rfl, hw⟩
  have h1' := H.out.ex hw
  have d0 : w1.cell? ⟨b, 0, none⟩ = some (.slice (some ⟨r, 0, none⟩) l.length cap) := h1'.box.cell 0
  have ds : w1.cell? ⟨b, 1 + s, none⟩ = some (.int .i64 ((l.count s : Nat) : Int)) := h1'.cellk s (by omega)
  have dt : w1.cell? ⟨b, 1 + t, none⟩ = some (.int .i64 ((l.count t : Nat) : Int)) := h1'.cellk t (by omega)
  have fs := h1'.box.soft (1 + s)
  have ft := h1'.box.soft (1 + t)
  have dr : w1.cell? ⟨r, g, none⟩ = some (.int .i64 (s : Nat)) := (hw.cell (p := ⟨r, g, none⟩) r2).trans r3
  have fr : w1.frozen? ⟨r, g, none⟩ = false := (hw.frozen (p := ⟨r, g, none⟩) r2).trans r4
  have q1 : ((l.count s : Nat) : Int) ≤ 1024 := by have := List.count_le_length (a := s) (l := l); omega
  have q2 : ((l.count t : Nat) : Int) ≤ 1024 := by have := List.count_le_length (a := t) (l := l); omega
  have q3 : (0 : Int) ≤ ((l.count s : Nat) : Int) := by omega
  have q4 : (0 : Int) ≤ ((l.count t : Nat) : Int) := by omega
  obtain ⟨cs, hcs⟩ : ∃ c : Nat, l.count s = c := ⟨_, rfl⟩
  obtain ⟨ct, hct⟩ : ∃ c : Nat, l.count t = c := ⟨_, rfl⟩
  rw [hcs] at ds q1 q3
  rw [hct] at dt q2 q4
  have HW := Lib.hid hw
  have HCS := Lib.hid hcs
  have HCT := Lib.hid hct
  clear hw h1' hcs hct
  go_wp2_with fail
  go_region
  go_wp2_with fail
  go_region
  go_wp2_with fail
  go_ret
  refine ⟨rfl, ?_⟩
  have := move_next (m := 2) H.out HW.out hg HS.out HM.out
  rw [HCS.out, HCT.out] at this
  exact this

set_option maxRecDepth 10000 in
set_option maxHeartbeats 1600000 in
theorem move_no {w : World} {b : Nat} {v : Value} {l : List Nat} (h : St w b v l) (g : Nat) (hg : g < l.length) (s : Nat) (t : Int) (hs : l.getD g 0 = s) (hm : mayB s t = false) :
    Calls Try.prog 10 #[.pointer (some ⟨b, 0, none⟩), .int .i64 g, .int .i64 t] w fun e w' => e = .returned (.int .i64 5) ∧ Ex w w' := by
  obtain ⟨a, cap, rfl, h1, h2, hc⟩ := h.slice
  obtain ⟨r, rfl, r1, r2, r3, r4⟩ := hc g hg
  have c0 : w.cell? ⟨b, 0, none⟩ = some (.slice (some ⟨r, 0, none⟩) l.length cap) := h.box.cell 0
  have K1 := Lib.hid (of_in h g hg s hs)
  have K2 := Lib.hid (fun w => may_any (s : Nat) t w)
  rw [hm] at K2
  have hl := h.len
  have b1 : 1 ≤ s := by
    have : l[g] ∈ l := List.getElem_mem hg
    have e : l[g] = s := by rw [← hs]; simp [hg]
    rw [e] at this
    exact (h.ok s this).1
  rw [hs] at r3
  clear h hc hs hm
  go_enter Try.func10, Try.ntmps10
  go_wp2_with fail
  refine K1.out.mono ?_
  rintro e w' ⟨rfl, rfl⟩
  go_wp2_with fail
  refine (K2.out _).mono ?_
  rintro e w1 ⟨rfl, hw⟩
  have HW := Lib.hid hw
  clear hw
  go_wp2_with fail
  go_ret
  exact ⟨rfl, HW.out⟩

set_option maxHeartbeats 800000 in
theorem move_none {w : World} {b : Nat} {v : Value} {l : List Nat} (h : St w b v l) (g t : Int) (hg : g < 0 ∨ (0 ≤ g ∧ (l.length : Int) ≤ g)) :
    Calls Try.prog 10 #[.pointer (some ⟨b, 0, none⟩), .int .i64 g, .int .i64 t] w fun e w' => e = .returned (.int .i64 4) ∧ w = w' := by
  have K1 := Lib.hid (of_out h g hg)
  clear h hg
  go_enter Try.func10, Try.ntmps10
  go_wp2_with fail
  refine K1.out.mono ?_
  rintro e w' ⟨rfl, rfl⟩
  go_wp2_with fail
  go_ret
  exact ⟨rfl, rfl⟩

theorem new_any (w : World) : Calls Try.prog 7 #[] w fun e w' => e = .returned (.pointer (some ⟨w.heap.size, 0, none⟩)) ∧ St w' w.heap.size (.slice none 0 0) [] ∧ Ex w w' ∧ w'.heap.size = w.heap.size + 1 := by
  go_enter Try.func7, Try.ntmps7
  go_wp2
  go_ret
  exact ⟨rfl, ⟨Box.fresh _ _ _, World.ownsRow_nil _ _ _ _, by simp, by simp⟩, Ex.made _ _, by simp⟩

theorem spawn_nil (w : World) : Calls Try.prog 8 #[.pointer none] w fun e w' => e = .returned (.tuple #[.int .i64 0, .int .i64 1]) ∧ w = w' := by
  go_enter Try.func8, Try.ntmps8
  go_wp2
  go_ret2
  exact ⟨rfl, rfl⟩
theorem of_nil (w : World) : Calls Try.prog 13 #[.pointer none, .int .i64 0] w fun e w' => e = .returned (.int .i64 0) ∧ w = w' := by
  go_enter Try.func13, Try.ntmps13
  go_wp2
  go_ret
  exact ⟨rfl, rfl⟩
theorem len_nil (w : World) : Calls Try.prog 12 #[.pointer none] w fun e w' => e = .returned (.int .i64 0) ∧ w = w' := by
  go_enter Try.func12, Try.ntmps12
  go_wp2
  go_ret
  exact ⟨rfl, rfl⟩
set_option maxRecDepth 10000 in
theorem spawn_full {w : World} {b : Nat} {v : Value} {l : List Nat} (h : St w b v l) (hl : 1024 ≤ l.length) :
    Calls Try.prog 8 #[.pointer (some ⟨b, 0, none⟩)] w fun e w' => e = .returned (.tuple #[.int .i64 0, .int .i64 3]) ∧ w = w' := by
  obtain ⟨a, cap, rfl, h1, h2, -⟩ := h.slice
  have c0 : w.cell? ⟨b, 0, none⟩ = some (.slice a l.length cap) := h.box.cell 0
  clear h
  go_enter Try.func8, Try.ntmps8
  go_wp2
  go_ret2
  exact ⟨rfl, rfl⟩

end Go.Proofs.Ytbdnpjbookhebaa
