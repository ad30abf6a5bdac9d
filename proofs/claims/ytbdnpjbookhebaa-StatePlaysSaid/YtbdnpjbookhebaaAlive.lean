/- Package state: Alive: its contract. -/
import Derived.Test.YtbdnpjbookhebaaStates3
namespace Go.Proofs.Ytbdnpjbookhebaa
open Go.RowKit
set_option linter.unusedVariables false

/-- Those of the first k that are not dead. -/
def aliveTo (l : List Nat) (k : Nat) : List Nat := (List.range k).filter fun j => l.getD j 0 != 5
theorem alive_hit {l : List Nat} {k : Nat} (h : l.getD k 0 ≠ 5) : aliveTo l (k + 1) = aliveTo l k ++ [k] := by
  simp only [aliveTo, List.range_succ, List.filter_append]
  congr 1
  simp only [List.filter_cons, List.filter_nil]
  rw [if_pos (by simpa using h)]
theorem alive_miss {l : List Nat} {k : Nat} (h : l.getD k 0 = 5) : aliveTo l (k + 1) = aliveTo l k := by
  simp only [aliveTo, List.range_succ, List.filter_append, List.filter_cons, List.filter_nil]
  rw [if_neg (by simpa using h), List.append_nil]
theorem alive_le (l : List Nat) (k : Nat) : (aliveTo l k).length ≤ k := by
  have := List.length_filter_le (fun j => l.getD j 0 != 5) (List.range k)
  simpa [aliveTo] using this

def AliveIs (w : World) (l : List Nat) (e : Ending) (w' : World) : Prop :=
  ∃ v, e = .returned v ∧ w'.ownsRow w.heap.size 3 1 v (aliveTo l l.length).length (ints (aliveTo l l.length)) ∧ Ex w w'

theorem ex_grown {w w' : World} {B : Nat} {v : Value} {E : TypeId} {n : Nat} {xs : List Value} (h : w.ownsRow B E 1 v n xs) {W0 : World} (hB : Below B W0 w) (hs : B ≤ w.heap.size) (hg : w.grownBy w' v.ownBlock) : Below B W0 w' :=
  hB.grown hg hs fun k hk => (h.lt k hk).1

set_option maxRecDepth 10000 in
set_option maxHeartbeats 1600000 in
theorem alive_any {w : World} {b : Nat} {v : Value} {l : List Nat} (h : St w b v l) :
    Calls Try.prog 16 #[.pointer (some ⟨b, 0, none⟩)] w (AliveIs w l) := by
  obtain ⟨i0, hi, hz0, hz1, hz2⟩ := info_parts info_int
  obtain ⟨a, cap, rfl, h1, h2, -⟩ := h.slice
  have c0 : w.cell? ⟨b, 0, none⟩ = some (.slice a l.length cap) := h.box.cell 0
  have K1 := Lib.hid (len_any h)
  have H := Lib.hid h
  have hl := h.len
  have hb := h.box.lt
  clear h
  go_enter Try.func16, Try.ntmps16
  go_wp2_with fail
  refine K1.out.mono ?_
  rintro e w' ⟨rfl, rfl⟩
  go_wp2_with fail
  go_loopw [3, 7] (fun v i wr => ∃ k : Nat, k ≤ l.length ∧ i = .int .i64 k ∧ wr.ownsRow w.heap.size 3 1 v (aliveTo l k).length (ints (aliveTo l k)) ∧ Ex w wr) (fun _ i _ => l.length - (intOf i).toNat)
  case atStart => exact ⟨0, Nat.zero_le _, rfl, World.ownsRow_nil _ _ _ _, Ex.refl _⟩
  case round =>
    obtain ⟨k, hk, rfl, hown, hx⟩ := hrel
    have HX := Lib.hid hx
    have HO := Lib.hid hown
    clear hown hx
    by_cases hlt : k < l.length
    · have h' := H.out.ex HX.out
      obtain ⟨a', cap', e1, -, -, hc⟩ := h'.slice
      injection e1 with e1 _ e2
      subst e1; subst e2
      obtain ⟨r, rfl, r1, r2, r3, r4⟩ := hc k hlt
      have d0 : wr.cell? ⟨b, 0, none⟩ = some (.slice (some ⟨r, 0, none⟩) l.length cap) := h'.box.cell 0
      obtain ⟨s, hs⟩ : ∃ s, l.getD k 0 = s := ⟨_, rfl⟩
      rw [hs] at r3
      have HS := Lib.hid hs
      have hal := alive_le l k
      clear h' hc hs c0
      by_cases h5 : s = 5
      · subst h5
        go_wp2
        go_roundw
        case rel => exact ⟨k + 1, by omega, by go_num, by rw [alive_miss HS.out]; exact HO.out, HX.out⟩
        case measure => simp [intOf]; omega
      · have h5' : ((s : Int) != 5) = true := by simp; omega
        go_wp2_with (at_builtin; refine wpList_append_mine _ rfl (.tmp 18) (.tmp 20) 25 rfl w.heap.size 3 i0 (.int .i64 0) 1 8 Try.underlying25 hi hz0 hz1 hz2 rfl (by decide) _ _ _ rfl (HO.out.alloc _) ⟨wr.heap.size, 0, none⟩ 1 1 [.int .i64 k] rfl rfl (one_new _ _ _) (one_cell rfl) (by unfold maxLen; omega) (by omega) (row_alloc_base wr _ HX.out.size) (by omega) ?_)
        intro g' cap' w1 hown hg hor hbg hlt' hc1 hc2
        have HO1 := Lib.hid hown
        have HX1 := Lib.hid (ex_grown (HO.out.alloc _) (Below.alloc HX.out HX.out.size _) (row_alloc_base wr _ HX.out.size) hg)
        clear hown hg hor
        go_wp2
        go_roundw
        case rel =>
          refine ⟨k + 1, by omega, by go_num, ?_, HX1.out⟩
          rw [alive_hit (by rw [HS.out]; exact h5), List.length_append, ← ints_app]
          exact HO1.out
        case measure => simp [intOf]; omega
    · obtain rfl : k = l.length := by omega
      have e1 : ¬ ((l.length : Int) < (l.length : Int)) := by omega
      go_wp2
      go_ret
      exact ⟨_, rfl, HO.out, HX.out⟩

end Go.Proofs.Ytbdnpjbookhebaa
