/- ModelLists: plain. -/
import Derived.Test.YtmlobpapjfkbmaaPIns16
namespace Go.Proofs.Ytmlobpapjfkbmaa
set_option linter.unusedVariables false
set_option maxRecDepth 20000
set_option linter.unusedSimpArgs false

theorem opM_3 (m : MS) (g a b c : Nat) : opM m g 3 a b c = (if (x1 m g).val a = 0 ∨ (m.slots.getD ((x1 m g).val a) []).length ≤ b then deadM m g else
      { m.put g (x1 m g) with slots := m.slots.set ((x1 m g).val a) ((m.slots.getD ((x1 m g).val a) []).set b ((x1 m g).val c)) }) := rfl

def nodeL : List C15.I4 := [(1, 1, 1, 0), (3, 1, 0, 0), (4, 0, 1, 0)]
def nodesL : Nat → List C15.I4
  | 0 => []
  | q + 1 => nodesL q ++ nodeL
def progL (k : Nat) : List C15.I4 := nodesL k ++ [(5, 1, 0, 0), (5, 0, 0, 0)]
theorem nodes_len : ∀ q, (nodesL q).length = 3 * q
  | 0 => rfl
  | q + 1 => by rw [nodesL, List.length_append, nodes_len q]; simp [nodeL]; omega
theorem nodes_at : ∀ k q, q < k → (nodesL k)[3 * q]? = some (1, 1, 1, 0) ∧ (nodesL k)[3 * q + 1]? = some (3, 1, 0, 0) ∧ (nodesL k)[3 * q + 2]? = some (4, 0, 1, 0)
  | 0, q, h => absurd h (Nat.not_lt_zero _)
  | k + 1, q, h => by
    have hl := nodes_len k
    rw [nodesL]
    by_cases hq : q < k
    · obtain ⟨h1, h2, h3⟩ := nodes_at k q hq
      rw [List.getElem?_append_left (by omega), List.getElem?_append_left (by omega), List.getElem?_append_left (by omega)]
      exact ⟨h1, h2, h3⟩
    · obtain rfl : q = k := by omega
      rw [List.getElem?_append_right (by omega), List.getElem?_append_right (by omega), List.getElem?_append_right (by omega), hl]
      refine ⟨?_, ?_, ?_⟩
      · rw [show 3 * q - 3 * q = 0 by omega]; rfl
      · rw [show 3 * q + 1 - 3 * q = 1 by omega]; rfl
      · rw [show 3 * q + 2 - 3 * q = 2 by omega]; rfl
theorem prog_at (k q : Nat) (h : q < k) : (progL k).getD (3 * q) (0, 0, 0, 0) = (1, 1, 1, 0) ∧ (progL k).getD (3 * q + 1) (0, 0, 0, 0) = (3, 1, 0, 0) ∧ (progL k).getD (3 * q + 2) (0, 0, 0, 0) = (4, 0, 1, 0) := by
  obtain ⟨h1, h2, h3⟩ := nodes_at k q h
  have hl := nodes_len k
  unfold progL
  simp only [List.getD_eq_getElem?_getD]
  rw [List.getElem?_append_left (by omega), List.getElem?_append_left (by omega), List.getElem?_append_left (by omega), h1, h2, h3]
  exact ⟨rfl, rfl, rfl⟩
theorem prog_end (k : Nat) : (progL k).getD (3 * k) (0, 0, 0, 0) = (5, 1, 0, 0) ∧ (progL k).getD (3 * k + 1) (0, 0, 0, 0) = (5, 0, 0, 0) := by
  have hl := nodes_len k
  unfold progL
  simp only [List.getD_eq_getElem?_getD]
  rw [List.getElem?_append_right (by omega), List.getElem?_append_right (by omega), hl, show 3 * k - 3 * k = 0 by omega, show 3 * k + 1 - 3 * k = 1 by omega]
  exact ⟨rfl, rfl⟩
theorem may_lists : ∀ k, k < 21 → 1 ≤ k → C15.mayI ((0 : Nat) : Int) [progL k] = 0 := by decide +kernel

/-- The objects of q nodes. -/
def objsL (q : Nat) : List (List Nat) := [] :: (List.range q).map (fun i => [i, 0])
/-- Behind q nodes: the goroutine, its next instruction, two places, the objects. -/
def stL (pc a b : Nat) (o : List (List Nat)) : MS := ⟨[⟨0, pc, 0, a :: b :: List.replicate 14 0⟩], [1], [], o, [], 0, List.replicate 32 [], 0⟩
theorem objs_len (q : Nat) : (objsL q).length = q + 1 := by simp [objsL]
theorem objs_snoc (q : Nat) : objsL q ++ [[q, 0]] = objsL (q + 1) := by simp [objsL, List.range_succ]
theorem stL_start : m0 0 = stL 0 0 0 (objsL 0) := rfl
theorem inst_L (k pc a b : Nat) (o : List (List Nat)) : instAt [progL k] ((stL pc a b o).at 0) = (progL k).getD pc (0, 0, 0, 0) := rfl
theorem step_L {k pc a b : Nat} {o : List (List Nat)} {i0 i1 i2 i3 : Nat} (h : (progL k).getD pc (0, 0, 0, 0) = ((i0 : Int), (i1 : Int), (i2 : Int), (i3 : Int))) :
    stepM [progL k] (stL pc a b o) 0 = opM (stL pc a b o) 0 i0 i1 i2 i3 ∧ tells [progL k] (stL pc a b o) 0 = ⟨0, 0, pc, (i0 : Int), opV (stL pc a b o) 0 i0 i1 i2 i3, opBad (stL pc a b o) 0 i0 i1 i2 i3⟩ := by
  unfold stepM tells
  rw [inst_L, h]
  exact ⟨rfl, rfl⟩
/-- A node's three instructions. -/
theorem node_steps {k q : Nat} (h : q < k) :
    stepM [progL k] (stL (3 * q) q q (objsL q)) 0 = stL (3 * q + 1) q (q + 1) (objsL q ++ [[0, 0]]) ∧ (tells [progL k] (stL (3 * q) q q (objsL q)) 0).bad = false ∧
    stepM [progL k] (stL (3 * q + 1) q (q + 1) (objsL q ++ [[0, 0]])) 0 = stL (3 * q + 2) q (q + 1) (objsL (q + 1)) ∧ (tells [progL k] (stL (3 * q + 1) q (q + 1) (objsL q ++ [[0, 0]])) 0).bad = false ∧
    stepM [progL k] (stL (3 * q + 2) q (q + 1) (objsL (q + 1))) 0 = stL (3 * (q + 1)) (q + 1) (q + 1) (objsL (q + 1)) ∧ (tells [progL k] (stL (3 * q + 2) q (q + 1) (objsL (q + 1))) 0).bad = false := by
  obtain ⟨h1, h2, h3⟩ := prog_at k q h
  obtain ⟨a1, a2⟩ := step_L (a := q) (b := q) (o := objsL q) h1 (i0 := 1) (i1 := 1) (i2 := 1) (i3 := 0)
  obtain ⟨b1, b2⟩ := step_L (a := q) (b := q + 1) (o := objsL q ++ [[0, 0]]) h2 (i0 := 3) (i1 := 1) (i2 := 0) (i3 := 0)
  obtain ⟨c1, c2⟩ := step_L (a := q) (b := q + 1) (o := objsL (q + 1)) h3 (i0 := 4) (i1 := 0) (i2 := 1) (i3 := 0)
  have hl := objs_len q
  have hg : (objsL q ++ [[0, 0]]).getD (q + 1) [] = [0, 0] := by
    rw [List.getD_eq_getElem?_getD, List.getElem?_append_right (by omega), hl]; simp
  have hs : (objsL q ++ [[0, 0]]).set (q + 1) [q, 0] = objsL (q + 1) := by
    rw [← objs_snoc, List.set_append_right _ _ (by omega), hl]; simp
  refine ⟨?_, by rw [a2]; rfl, ?_, ?_, ?_, by rw [c2]; rfl⟩
  · rw [a1]
    show stL (3 * q + 1) q (objsL q).length (objsL q ++ [[0, 0]]) = _
    rw [hl]
  · rw [b1, opM_3]
    have hv : (x1 (stL (3 * q + 1) q (q + 1) (objsL q ++ [[0, 0]])) 0).val 1 = q + 1 := rfl
    have hv0 : (x1 (stL (3 * q + 1) q (q + 1) (objsL q ++ [[0, 0]])) 0).val 0 = q := rfl
    have ho : (stL (3 * q + 1) q (q + 1) (objsL q ++ [[0, 0]])).slots = objsL q ++ [[0, 0]] := rfl
    rw [hv, hv0, ho, hg, if_neg (by simp)]
    show stL (3 * q + 2) q (q + 1) ((objsL q ++ [[0, 0]]).set (q + 1) ([0, 0].set 0 q)) = _
    rw [show [0, 0].set 0 q = [q, 0] from rfl, hs]
  · rw [b2]
    show decide ((q + 1) = 0 ∨ ((objsL q ++ [[0, 0]]).getD (q + 1) []).length ≤ 0) = false
    rw [hg]; simp
  · rw [c1]
    show stL (3 * q + 3) (q + 1) (q + 1) (objsL (q + 1)) = _
    rfl
theorem end_steps (k : Nat) : stepM [progL k] (stL (3 * k) k k (objsL k)) 0 = stL (3 * k + 1) k 0 (objsL k) ∧ (tells [progL k] (stL (3 * k) k k (objsL k)) 0).bad = false ∧ stepM [progL k] (stL (3 * k + 1) k 0 (objsL k)) 0 = stL (3 * k + 2) 0 0 (objsL k) := by
  obtain ⟨h1, h2⟩ := prog_end k
  obtain ⟨a1, a2⟩ := step_L (a := k) (b := k) (o := objsL k) h1 (i0 := 5) (i1 := 1) (i2 := 0) (i3 := 0)
  obtain ⟨b1, b2⟩ := step_L (a := k) (b := 0) (o := objsL k) h2 (i0 := 5) (i1 := 0) (i2 := 0) (i3 := 0)
  refine ⟨a1.trans rfl, by rw [a2]; rfl, b1.trans rfl⟩
/-- After i instructions. -/
def atL (k i : Nat) : MS := if i % 3 = 0 then stL i (i / 3) (i / 3) (objsL (i / 3)) else if i % 3 = 1 then stL i (i / 3) (i / 3 + 1) (objsL (i / 3) ++ [[0, 0]]) else stL i (i / 3) (i / 3 + 1) (objsL (i / 3 + 1))
theorem atL_step {k i : Nat} (h : i < 3 * k) : stepM [progL k] (atL k i) 0 = atL k (i + 1) ∧ (tells [progL k] (atL k i) 0).bad = false := by
  obtain ⟨h1, h2, h3, h4, h5, h6⟩ := node_steps (k := k) (q := i / 3) (by omega)
  have : i % 3 = 0 ∨ i % 3 = 1 ∨ i % 3 = 2 := by omega
  unfold atL
  rcases this with e | e | e
  · rw [if_pos e, if_neg (by omega), if_pos (by omega), show (i + 1) / 3 = i / 3 by omega]
    have : i = 3 * (i / 3) := by omega
    generalize i / 3 = q at *
    subst this
    exact ⟨h1, h2⟩
  · rw [if_neg (by omega), if_pos e, if_neg (by omega), if_neg (by omega), show (i + 1) / 3 = i / 3 by omega]
    have : i = 3 * (i / 3) + 1 := by omega
    generalize i / 3 = q at *
    subst this
    exact ⟨h3, h4⟩
  · rw [if_neg (by omega), if_neg (by omega), if_pos (by omega), show (i + 1) / 3 = i / 3 + 1 by omega]
    have : i = 3 * (i / 3) + 2 := by omega
    generalize i / 3 = q at *
    subst this
    exact ⟨h5, h6⟩
theorem atL_one (k i : Nat) : (atL k i).gs.length = 1 ∧ (atL k i).st = [1] ∧ (atL k i).sleep = [] := by
  unfold atL
  split
  · exact ⟨rfl, rfl, rfl⟩
  · split <;> exact ⟨rfl, rfl, rfl⟩

theorem objs_at (k i : Nat) : (objsL k).getD i [] = if 1 ≤ i ∧ i ≤ k then [i - 1, 0] else [] := by
  unfold objsL
  cases i with
  | zero => simp
  | succ i =>
    rw [List.getD_cons_succ, List.getD_eq_getElem?_getD]
    by_cases h : i < k
    · simp [h]; omega
    · simp [h]; omega
open Classical in
theorem rch_L (k : Nat) : rchL (stL (3 * k + 1) k 0 (objsL k)) = (List.range (k + 1)).filter (fun i => decide (i ≠ 0)) := by
  have hr : rootsM (stL (3 * k + 1) k 0 (objsL k)) = k :: List.replicate 15 0 := rfl
  have up : ∀ j, j ≤ k → ∀ i, i = k - j → i ≠ 0 → Rch (stL (3 * k + 1) k 0 (objsL k)) i := by
    intro j
    induction j with
    | zero => intro _ i hi h0; subst hi; exact .root (by rw [hr]; simp) h0
    | succ j ih =>
      intro hj i hi h0
      have h1 := ih (by omega) (i + 1) (by omega) (by omega)
      refine .step h1 ?_ h0
      show i ∈ (objsL k).getD (i + 1) []
      rw [objs_at, if_pos ⟨by omega, by omega⟩]
      simp
  unfold rchL
  show (List.range (objsL k).length).filter _ = _
  rw [objs_len]
  apply List.filter_congr
  intro i hi
  have hi : i < k + 1 := by simpa using hi
  have : Rch (stL (3 * k + 1) k 0 (objsL k)) i ↔ i ≠ 0 := by
    constructor
    · intro r; cases r with
      | root _ h => exact h
      | step _ _ h => exact h
    · intro h; exact up (k - i) (by omega) i (by omega) h
  simp [this]
theorem rch_L_len (k : Nat) : (rchL (stL (3 * k + 1) k 0 (objsL k))).length = k := by
  rw [rch_L]
  have : ∀ n, ((List.range (n + 1)).filter (fun i => decide (i ≠ 0))).length = n := by
    intro n
    induction n with
    | zero => rfl
    | succ n ih => rw [List.range_succ, List.filter_append, List.length_append, ih]; simp
  exact this k
theorem rch_L0 (k : Nat) : rchL (stL (3 * k + 2) 0 0 (objsL k)) = [] := rchL_nil (fun x hx => by
  have e : rootsM (stL (3 * k + 2) 0 0 (objsL k)) = List.replicate 16 0 := rfl
  rw [e] at hx
  exact (List.mem_replicate.1 hx).2)

end Go.Proofs.Ytmlobpapjfkbmaa
