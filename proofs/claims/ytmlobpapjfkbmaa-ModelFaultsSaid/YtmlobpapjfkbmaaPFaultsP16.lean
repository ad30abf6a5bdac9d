/- ModelFaults: plain. -/
import Derived.Test.YtmlobpapjfkbmaaPListsP16
namespace Go.Proofs.Ytmlobpapjfkbmaa
set_option linter.unusedVariables false
set_option maxRecDepth 20000
set_option linter.unusedSimpArgs false

theorem opM_2 (m : MS) (g a b c : Nat) : opM m g 2 a b c = (if (x1 m g).val b = 0 ∨ (m.slots.getD ((x1 m g).val b) []).length ≤ c then deadM m g else m.put g ((x1 m g).top a ((m.slots.getD ((x1 m g).val b) []).getD c 0))) := rfl

def insF (l : Bool) (i : Nat) : C15.I4 := if l = true then (2, 2, 1, (i : Int)) else (3, 1, (i : Int), 1)
def firstF (l : Bool) (k i : Nat) : List C15.I4 := [(8, 1, 0, 0), (1, 1, (k : Int), 0), insF l i, (2, 3, 9, 0)]
def FF (l : Bool) (k i : Nat) : Fns := [firstF l k i, [(5, 0, 0, 0)]]
theorem may_F (l : Bool) (k i : Nat) (hk : k < 256) (hi : i < 256) : C15.mayI ((0 : Nat) : Int) (FF l k i) = 0 := by
  refine C15.MayBe.may ⟨by simp [FF], by simp [FF], by decide, by decide, ?_, ?_⟩
  · intro q hq
    simp only [FF, List.mem_cons, List.mem_nil_iff, or_false] at hq
    rcases hq with rfl | rfl <;> simp [firstF]
  · intro q hq x hx
    simp only [FF, List.mem_cons, List.mem_nil_iff, or_false] at hq
    rcases hq with rfl | rfl
    · simp only [firstF, List.mem_cons, List.mem_nil_iff, or_false] at hx
      rcases hx with rfl | rfl | rfl | rfl
      · exact of_decide_eq_true rfl
      · simp [C15.wrongI, C15.okP, C15.kd, C15.kdT, C15.lim]; omega
      · unfold insF
        split <;> (simp [C15.wrongI, C15.okP, C15.kd, C15.kdT, C15.lim]; omega)
      · exact of_decide_eq_true rfl
    · simp only [List.mem_cons, List.mem_nil_iff, or_false] at hx
      subst hx
      exact of_decide_eq_true rfl

def g0F (pc c d : Nat) : GS := ⟨0, pc, 0, [0, c, d, 0, 0, 0, 0, 0, 0, 0, 0, 0, 0, 0, 0, 0]⟩
def mF (pc c d : Nat) (s : Nat) (o : List (List Nat)) : MS := ⟨[g0F pc c d, newG 1 0], [s, 1], [], o, [], 0, List.replicate 32 [], 0⟩
theorem F_1 (l : Bool) (k i : Nat) : stepM (FF l k i) (m0 0) 0 = mF 1 0 0 1 [[]] := rfl
theorem F_2 (l : Bool) (k i : Nat) : stepM (FF l k i) (mF 1 0 0 1 [[]]) 0 = mF 2 1 0 1 [[], List.replicate (k + 1) 0] := rfl
theorem inst_F (l : Bool) (k i c d s : Nat) (o : List (List Nat)) : instAt (FF l k i) ((mF 2 c d s o).at 0) = insF l i := rfl
/-- The instruction asked for. -/
theorem F_3 (l : Bool) (k i : Nat) : ∃ d o, o.length = 2 ∧ stepM (FF l k i) (mF 2 1 0 1 [[], List.replicate (k + 1) 0]) 0 = mF 3 1 d (if k < i then 5 else 1) o ∧ (tells (FF l k i) (mF 2 1 0 1 [[], List.replicate (k + 1) 0]) 0).bad = decide (k < i) ∧ (tells (FF l k i) (mF 2 1 0 1 [[], List.replicate (k + 1) 0]) 0).v = 0 := by
  unfold stepM tells
  rw [inst_F]
  cases l with
  | true =>
    refine ⟨0, [[], List.replicate (k + 1) 0], rfl, ?_, ?_, ?_⟩
    · show opM (mF 2 1 0 1 [[], List.replicate (k + 1) 0]) 0 2 2 1 i = _
      rw [opM_2]
      have hv : (x1 (mF 2 1 0 1 [[], List.replicate (k + 1) 0]) 0).val 1 = 1 := rfl
      have ho : (mF 2 1 0 1 [[], List.replicate (k + 1) 0]).slots.getD 1 [] = List.replicate (k + 1) 0 := rfl
      rw [hv, ho, List.length_replicate]
      by_cases h : k < i
      · rw [if_pos (by omega), if_pos h]; rfl
      · rw [if_neg (by omega), if_neg h]
        have : (List.replicate (k + 1) 0).getD i 0 = 0 := by
          rw [List.getD_eq_getElem?_getD, List.getElem?_replicate]; split <;> rfl
        rw [this]; rfl
    · have hlr : (List.replicate (k + 1) 0).length = k + 1 := List.length_replicate
      by_cases h : k < i
      · exact (decide_eq_true (show 1 = 0 ∨ (List.replicate (k + 1) 0).length ≤ i by omega)).trans (decide_eq_true h).symm
      · exact (decide_eq_false (show ¬ (1 = 0 ∨ (List.replicate (k + 1) 0).length ≤ i) by omega)).trans (decide_eq_false h).symm
    · show (if decide (1 = 0 ∨ (List.replicate (k + 1) 0).length ≤ i) = true then (0 : Int) else (((List.replicate (k + 1) 0).getD i 0 : Nat) : Int)) = 0
      have : (List.replicate (k + 1) 0).getD i 0 = 0 := by
        rw [List.getD_eq_getElem?_getD, List.getElem?_replicate]; split <;> rfl
      rw [this]; split <;> rfl
  | false =>
    refine ⟨0, if k < i then [[], List.replicate (k + 1) 0] else [[], (List.replicate (k + 1) 0).set i 1], by split <;> rfl, ?_, ?_, ?_⟩
    · show opM (mF 2 1 0 1 [[], List.replicate (k + 1) 0]) 0 3 1 i 1 = _
      rw [opM_3]
      have hv : (x1 (mF 2 1 0 1 [[], List.replicate (k + 1) 0]) 0).val 1 = 1 := rfl
      have ho : (mF 2 1 0 1 [[], List.replicate (k + 1) 0]).slots.getD 1 [] = List.replicate (k + 1) 0 := rfl
      rw [hv, ho, List.length_replicate]
      by_cases h : k < i
      · rw [if_pos (by omega), if_pos h, if_pos h]; rfl
      · rw [if_neg (by omega), if_neg h, if_neg h]; rfl
    · have hlr : (List.replicate (k + 1) 0).length = k + 1 := List.length_replicate
      by_cases h : k < i
      · exact (decide_eq_true (show 1 = 0 ∨ (List.replicate (k + 1) 0).length ≤ i by omega)).trans (decide_eq_true h).symm
      · exact (decide_eq_false (show ¬ (1 = 0 ∨ (List.replicate (k + 1) 0).length ≤ i) by omega)).trans (decide_eq_false h).symm
    · rfl
/-- Nothing is loaded from nothing. -/
theorem F_4 (l : Bool) (k i d : Nat) (o : List (List Nat)) : stepM (FF l k i) (mF 3 1 d 1 o) 0 = mF 4 1 d 5 o ∧ (tells (FF l k i) (mF 3 1 d 1 o) 0).bad = true := by
  have e : instAt (FF l k i) ((mF 3 1 d 1 o).at 0) = (2, 3, 9, 0) := rfl
  unfold stepM tells
  rw [e]
  refine ⟨?_, ?_⟩
  · show opM (mF 3 1 d 1 o) 0 2 3 9 0 = _
    rw [opM_2, if_pos (.inl rfl)]; rfl
  · exact decide_eq_true (show (0 = 0 ∨ ((mF 3 1 d 1 o).slots.getD 0 []).length ≤ 0) from .inl rfl)
theorem rch_F (d : Nat) (o : List (List Nat)) : rchL (mF 3 1 d 5 o) = [] := rchL_nil (fun x hx => by
  have e : rootsM (mF 3 1 d 5 o) = List.replicate 16 0 := rfl
  rw [e] at hx
  exact (List.mem_replicate.1 hx).2)

end Go.Proofs.Ytmlobpapjfkbmaa
