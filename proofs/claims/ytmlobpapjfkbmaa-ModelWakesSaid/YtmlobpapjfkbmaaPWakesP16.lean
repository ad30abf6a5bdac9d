/- ModelWakes: plain. -/
import Derived.Test.YtmlobpapjfkbmaaPCountsP16
namespace Go.Proofs.Ytmlobpapjfkbmaa
set_option linter.unusedVariables false
set_option maxRecDepth 20000
set_option linter.unusedSimpArgs false

def f0W (k u : Nat) : List C15.I4 := List.replicate k (8, 1, 0, 0) ++ (List.replicate u (12, 3, 0, 0) ++ [(11, 3, 0, 0)])
def FW (k u : Nat) : Fns := [f0W k u, [(11, 3, 0, 0)]]
theorem may_W : ∀ k, k < 21 → ∀ u, u < 25 → C15.mayI ((0 : Nat) : Int) (FW k u) = 0 := by decide +kernel
theorem f0W_1 {k u i : Nat} (h : i < k) : (f0W k u).getD i (0, 0, 0, 0) = (8, 1, 0, 0) := by
  unfold f0W
  rw [List.getD_eq_getElem?_getD, List.getElem?_append_left (by simpa using h)]; simp [h]
theorem f0W_2 {k u i : Nat} (h : i < u) : (f0W k u).getD (k + i) (0, 0, 0, 0) = (12, 3, 0, 0) := by
  unfold f0W
  rw [List.getD_eq_getElem?_getD, List.getElem?_append_right (by simp), List.length_replicate, Nat.add_sub_cancel_left, List.getElem?_append_left (by simpa using h)]; simp [h]
theorem f0W_3 (k u : Nat) : (f0W k u).getD (k + u) (0, 0, 0, 0) = (11, 3, 0, 0) := by
  unfold f0W
  rw [List.getD_eq_getElem?_getD, List.getElem?_append_right (by simp), List.length_replicate, Nat.add_sub_cancel_left, List.getElem?_append_right (by simp), List.length_replicate, Nat.sub_self]; rfl

def gW (f pc : Nat) : GS := ⟨f, pc, 0, zC⟩
def wS (pc s0 n : Nat) (p q : Nat → Nat) (L : List Nat) : MS := ⟨gW 0 pc :: (List.range n).map (fun i => gW 1 (p i)), s0 :: (List.range n).map q, [], [[]], [], 0, (List.replicate 32 []).set 3 L, 0⟩
def fset (p : Nat → Nat) (i v : Nat) : Nat → Nat := fun j => if j = i then v else p j

theorem set_range {α : Type} (f : Nat → α) (v : α) (n i : Nat) : ((List.range n).map f).set i v = (List.range n).map (fun j => if j = i then v else f j) := by
  apply List.ext_getElem?
  intro j
  rw [List.getElem?_set, List.getElem?_map, List.getElem?_map]
  by_cases hj : j < n
  · by_cases e : i = j
    · subst e; simp [hj]
    · rw [if_neg e]; simp [hj, show ¬ j = i from fun h => e h.symm]
  · by_cases e : i = j
    · subst e; simp [hj]
    · rw [if_neg e]; simp [hj]
theorem wS_len (pc s0 n : Nat) (p q : Nat → Nat) (L : List Nat) : (wS pc s0 n p q L).gs.length = n + 1 ∧ (wS pc s0 n p q L).st.length = n + 1 := by simp [wS]
theorem wS_at (pc s0 n : Nat) (p q : Nat → Nat) (L : List Nat) {i : Nat} (h : i < n) : (wS pc s0 n p q L).at (i + 1) = gW 1 (p i) ∧ (wS pc s0 n p q L).st.getD (i + 1) 0 = q i := by
  refine ⟨?_, ?_⟩
  · show (gW 0 pc :: (List.range n).map (fun i => gW 1 (p i))).getD (i + 1) gs0 = _
    rw [List.getD_cons_succ, List.getD_eq_getElem?_getD]; simp [h]
  · show (s0 :: (List.range n).map q).getD (i + 1) 0 = _
    rw [List.getD_cons_succ, List.getD_eq_getElem?_getD]; simp [h]
theorem wait_set (L : List Nat) : ((List.replicate 32 ([] : List Nat)).set 3 L).getD 3 [] = L := by rw [getD_setL]; simp
theorem wait_set2 (L M : List Nat) : ((List.replicate 32 ([] : List Nat)).set 3 L).set 3 M = (List.replicate 32 []).set 3 M := List.set_set ..
theorem wS_start : m0 0 = wS 0 1 0 (fun _ => 1) (fun _ => 3) [] := rfl

theorem W_spawn {k u pc n : Nat} {p q : Nat → Nat} {L : List Nat} (h : pc < k) (hn : n < 1000) :
    stepM (FW k u) (wS pc 1 n p q L) 0 = wS (pc + 1) 1 (n + 1) (fset p n 0) (fset q n 1) L ∧ (tells (FW k u) (wS pc 1 n p q L) 0).v = ((n + 1 : Nat) : Int) := by
  have hi : instAt (FW k u) ((wS pc 1 n p q L).at 0) = (((8 : Nat) : Int), ((1 : Nat) : Int), ((0 : Nat) : Int), ((0 : Nat) : Int)) := (f0W_1 h : (f0W k u).getD pc (0, 0, 0, 0) = _)
  obtain ⟨s1, s2⟩ := step_of hi
  have hl := (wS_len pc 1 n p q L).1
  rw [s1, s2]
  refine ⟨?_, ?_⟩
  · show (if (wS pc 1 n p q L).gs.length < 1024 then _ else _) = _
    rw [if_pos (by rw [hl]; omega)]
    have e1 : (List.range (n + 1)).map (fun i => gW 1 (fset p n 0 i)) = (List.range n).map (fun i => gW 1 (p i)) ++ [newG 1 0] := by
      rw [List.range_succ, List.map_append]
      congr 1
      · apply List.map_congr_left
        intro i hi
        have : i < n := by simpa using hi
        unfold fset; rw [if_neg (by omega)]
      · simp [fset, gW, newG, zC]
    have e2 : (List.range (n + 1)).map (fset q n 1) = (List.range n).map q ++ [1] := by
      rw [List.range_succ, List.map_append]
      congr 1
      · apply List.map_congr_left
        intro i hi
        have : i < n := by simpa using hi
        unfold fset; rw [if_neg (by omega)]
      · simp [fset]
    unfold wS
    rw [e1, e2]
    rfl
  · show (if (wS pc 1 n p q L).gs.length < 1024 then (((wS pc 1 n p q L).gs.length : Nat) : Int) else 0) = _
    rw [hl, if_pos (by omega)]
theorem W_block {k u pc s0 n i : Nat} {p q : Nat → Nat} {L : List Nat} (h : i < n) (hp : p i = 0) (hq : q i = 1) :
    stepM (FW k u) (wS pc s0 n p q L) (i + 1) = wS pc s0 n (fset p i 1) (fset q i 3) (L ++ [i + 1]) := by
  obtain ⟨ha, hs⟩ := wS_at pc s0 n p q L h
  have hi : instAt (FW k u) ((wS pc s0 n p q L).at (i + 1)) = (((11 : Nat) : Int), ((3 : Nat) : Int), ((0 : Nat) : Int), ((0 : Nat) : Int)) := by rw [ha, hp]; rfl
  obtain ⟨s1, -⟩ := step_of hi
  rw [s1]
  show (⟨(wS pc s0 n p q L).gs.set (i + 1) (x1 (wS pc s0 n p q L) (i + 1)), (wS pc s0 n p q L).st.set (i + 1) 3, [], [[]], [], 0, ((List.replicate 32 []).set 3 L).set 3 (((List.replicate 32 []).set 3 L).getD 3 [] ++ [i + 1]), 0⟩ : MS) = _
  have hx : x1 (wS pc s0 n p q L) (i + 1) = gW 1 1 := by unfold x1; rw [ha, hp]; rfl
  rw [hx, wait_set, wait_set2]
  show (⟨gW 0 pc :: ((List.range n).map (fun i => gW 1 (p i))).set i (gW 1 1), s0 :: ((List.range n).map q).set i 3, [], [[]], [], 0, (List.replicate 32 []).set 3 (L ++ [i + 1]), 0⟩ : MS) = _
  rw [set_range, set_range]
  unfold wS
  congr 1
  congr 1
  apply List.map_congr_left
  intro j hj
  unfold fset; split <;> rfl
theorem W_exit {k u pc s0 n i : Nat} {p q : Nat → Nat} {L : List Nat} (h : i < n) (hp : p i = 1) (hq : q i = 1) :
    stepM (FW k u) (wS pc s0 n p q L) (i + 1) = wS pc s0 n (fset p i 2) (fset q i 5) L := by
  obtain ⟨ha, hs⟩ := wS_at pc s0 n p q L h
  have hi : instAt (FW k u) ((wS pc s0 n p q L).at (i + 1)) = (((0 : Nat) : Int), ((0 : Nat) : Int), ((0 : Nat) : Int), ((0 : Nat) : Int)) := by rw [ha, hp]; rfl
  obtain ⟨s1, -⟩ := step_of hi
  rw [s1]
  show (⟨(wS pc s0 n p q L).gs.set (i + 1) (x1 (wS pc s0 n p q L) (i + 1)), (wS pc s0 n p q L).st.set (i + 1) 5, [], [[]], [], 0, (List.replicate 32 []).set 3 L, 0⟩ : MS) = _
  have hx : x1 (wS pc s0 n p q L) (i + 1) = gW 1 2 := by unfold x1; rw [ha, hp]; rfl
  rw [hx]
  show (⟨gW 0 pc :: ((List.range n).map (fun i => gW 1 (p i))).set i (gW 1 2), s0 :: ((List.range n).map q).set i 5, [], [[]], [], 0, (List.replicate 32 []).set 3 L, 0⟩ : MS) = _
  rw [set_range, set_range]
  unfold wS
  congr 1
  congr 1
  apply List.map_congr_left
  intro j hj
  unfold fset; split <;> rfl
theorem W_none {k u i n : Nat} {p q : Nat → Nat} (h : i < u) :
    stepM (FW k u) (wS (k + i) 1 n p q []) 0 = wS (k + i + 1) 1 n p q [] ∧ (tells (FW k u) (wS (k + i) 1 n p q []) 0).v = -1 := by
  have hi : instAt (FW k u) ((wS (k + i) 1 n p q []).at 0) = (((12 : Nat) : Int), ((3 : Nat) : Int), ((0 : Nat) : Int), ((0 : Nat) : Int)) := (f0W_2 h : (f0W k u).getD (k + i) (0, 0, 0, 0) = _)
  obtain ⟨s1, s2⟩ := step_of hi
  rw [s1, s2]
  exact ⟨rfl, rfl⟩
theorem W_wake {k u i n x : Nat} {p q : Nat → Nat} {L : List Nat} (h : i < u) (hx : x < n) :
    stepM (FW k u) (wS (k + i) 1 n p q ((x + 1) :: L)) 0 = wS (k + i + 1) 1 n p (fset q x 1) L ∧ (tells (FW k u) (wS (k + i) 1 n p q ((x + 1) :: L)) 0).v = ((x + 1 : Nat) : Int) := by
  have hi : instAt (FW k u) ((wS (k + i) 1 n p q ((x + 1) :: L)).at 0) = (((12 : Nat) : Int), ((3 : Nat) : Int), ((0 : Nat) : Int), ((0 : Nat) : Int)) := (f0W_2 h : (f0W k u).getD (k + i) (0, 0, 0, 0) = _)
  obtain ⟨s1, s2⟩ := step_of hi
  rw [s1, s2]
  refine ⟨?_, rfl⟩
  show (⟨gW 0 (k + i + 1) :: (List.range n).map (fun i => gW 1 (p i)), 1 :: ((List.range n).map q).set x 1, [], [[]], [], 0, ((List.replicate 32 []).set 3 ((x + 1) :: L)).set 3 L, 0⟩ : MS) = _
  rw [set_range, wait_set2]
  rfl
theorem W_last {k u n : Nat} {p q : Nat → Nat} {L : List Nat} :
    stepM (FW k u) (wS (k + u) 1 n p q L) 0 = wS (k + u + 1) 3 n p q (L ++ [0]) := by
  have hi : instAt (FW k u) ((wS (k + u) 1 n p q L).at 0) = (((11 : Nat) : Int), ((3 : Nat) : Int), ((0 : Nat) : Int), ((0 : Nat) : Int)) := (f0W_3 k u : (f0W k u).getD (k + u) (0, 0, 0, 0) = _)
  obtain ⟨s1, -⟩ := step_of hi
  rw [s1]
  show (⟨gW 0 (k + u + 1) :: (List.range n).map (fun i => gW 1 (p i)), 3 :: (List.range n).map q, [], [[]], [], 0, ((List.replicate 32 []).set 3 L).set 3 (((List.replicate 32 []).set 3 L).getD 3 [] ++ [0]), 0⟩ : MS) = _
  rw [wait_set, wait_set2]
  rfl

/-- Where i have been begun, and wait. -/
def aW (i : Nat) : MS := wS i 1 i (fun _ => 1) (fun _ => 3) (List.range' 1 i)
/-- The next one is begun. -/
def aW' (i : Nat) : MS := wS (i + 1) 1 (i + 1) (fset (fun _ => 1) i 0) (fset (fun _ => 3) i 1) (List.range' 1 i)
/-- All are begun; i wakes are done. -/
def bW (k i : Nat) : MS := wS (k + i) 1 k (fun _ => 1) (fun j => if j < i then 1 else 3) (List.range' (i + 1) (k - i))
/-- The first one waits, too; d are dead. -/
def cW (k u d : Nat) : MS := wS (k + u + 1) 3 k (fun j => if j < d then 2 else 1) (fun j => if j < d then 5 else if j < u then 1 else 3) (List.range' (u + 1) (k - u) ++ [0])
theorem fset_fset (p : Nat → Nat) (i a b : Nat) : fset (fset p i a) i b = fset p i b := by
  funext j; unfold fset; split <;> rfl
theorem aW_1 {k u i : Nat} (h : i < k) (hk : k ≤ 20) : stepM (FW k u) (aW i) 0 = aW' i ∧ (tells (FW k u) (aW i) 0).v = ((i + 1 : Nat) : Int) := W_spawn h (by omega)
theorem aW_2 (k u i : Nat) : stepM (FW k u) (aW' i) (i + 1) = aW (i + 1) := by
  unfold aW' aW
  rw [W_block (by omega) (by simp [fset]) (by simp [fset]), fset_fset, fset_fset]
  have e : ∀ v, fset (fun _ => v) i v = fun _ => v := fun v => by funext j; unfold fset; split <;> rfl
  rw [e, e, List.range'_concat]
  simp [Nat.add_comm]
theorem bW_0 (k : Nat) : aW k = bW k 0 := by
  unfold aW bW
  simp
theorem bW_1 {k u i : Nat} (h : i < u) : stepM (FW k u) (bW k i) 0 = bW k (i + 1) ∧ (tells (FW k u) (bW k i) 0).v = (if i < k then ((i + 1 : Nat) : Int) else -1) := by
  unfold bW
  by_cases hi : i < k
  · obtain ⟨d, hd⟩ : ∃ d, k - i = d + 1 := ⟨k - i - 1, by omega⟩
    rw [if_pos hi, hd, List.range'_succ]
    obtain ⟨s1, s2⟩ := W_wake (k := k) (p := fun _ => 1) (q := fun j => if j < i then 1 else 3) (L := List.range' (i + 1 + 1) d) h hi
    rw [s1, s2, show k - (i + 1) = d by omega]
    refine ⟨?_, rfl⟩
    have e : fset (fun j => if j < i then 1 else 3) i 1 = fun j => if j < i + 1 then 1 else 3 := by
      funext j; unfold fset
      by_cases e1 : j = i
      · rw [if_pos e1, if_pos (by omega)]
      · rw [if_neg e1]
        dsimp only
        by_cases e2 : j < i
        · rw [if_pos e2, if_pos (by omega)]
        · rw [if_neg e2, if_neg (by omega)]
    rw [e]; rfl
  · rw [if_neg hi, show k - i = 0 by omega, show k - (i + 1) = 0 by omega]
    obtain ⟨s1, s2⟩ := W_none (k := k) (n := k) (p := fun _ => 1) (q := fun j => if j < i then 1 else 3) h
    refine ⟨s1.trans ?_, s2⟩
    unfold wS
    congr 1
    congr 1
    apply List.map_congr_left
    intro j hj
    have : j < k := by simpa using hj
    show (if j < i then 1 else 3) = (if j < i + 1 then 1 else 3)
    rw [if_pos (by omega), if_pos (by omega)]
theorem cW_0 (k u : Nat) : stepM (FW k u) (bW k u) 0 = cW k u 0 := by
  unfold bW cW
  rw [W_last]
  rfl
theorem cW_1 {k u d : Nat} (h : d < min u k) : stepM (FW k u) (cW k u d) (d + 1) = cW k u (d + 1) := by
  unfold cW
  rw [W_exit (by omega) (by simp) (by simp; omega)]
  have e1 : fset (fun j => if j < d then 2 else 1) d 2 = fun j => if j < d + 1 then 2 else 1 := by
    funext j; unfold fset
    by_cases e1 : j = d
    · rw [if_pos e1, if_pos (by omega)]
    · rw [if_neg e1]
      dsimp only
      by_cases e2 : j < d
      · rw [if_pos e2, if_pos (by omega)]
      · rw [if_neg e2, if_neg (by omega)]
  have e2 : fset (fun j => if j < d then 5 else if j < u then 1 else 3) d 5 = fun j => if j < d + 1 then 5 else if j < u then 1 else 3 := by
    funext j; unfold fset
    by_cases e1 : j = d
    · rw [if_pos e1, if_pos (by omega)]
    · rw [if_neg e1]
      dsimp only
      by_cases e2 : j < d
      · rw [if_pos e2, if_pos (by omega)]
      · rw [if_neg e2, if_neg (show ¬ j < d + 1 by omega)]
  rw [e1, e2]
theorem cntW_ge (W : List (List Nat)) : ∀ n k, k < n → (W.getD k []).length ≤ cntW W n
  | 0, k, h => absurd h (Nat.not_lt_zero _)
  | n + 1, k, h => by
    by_cases e : k = n
    · subst e; show _ ≤ cntW W k + _; exact Nat.le_add_left ..
    · have := cntW_ge W n k (by omega)
      show _ ≤ cntW W n + _
      omega
/-- It is stuck. -/
theorem cW_stuck (k u : Nat) : stuckM (cW k u (min u k)) = true := by
  have h1 : (cW k u (min u k)).st.count 1 = 0 := by
    rw [List.count_eq_zero]
    unfold cW wS
    intro h
    rcases List.mem_cons.1 h with h | h
    · cases h
    · obtain ⟨j, hj, e⟩ := List.mem_map.1 h
      have hj : j < k := by simpa using hj
      by_cases e1 : j < min u k
      · simp only [if_pos e1] at e; cases e
      · simp only [if_neg e1, if_neg (show ¬ j < u by omega)] at e; cases e
  have h2 : (cW k u (min u k)).sleep.length = 0 := rfl
  have h3 : 0 < cntW (cW k u (min u k)).wait 32 := by
    have := cntW_ge (cW k u (min u k)).wait 32 3 (by omega)
    have e : (cW k u (min u k)).wait.getD 3 [] = List.range' (u + 1) (k - u) ++ [0] := wait_set _
    rw [e] at this
    simp at this
    omega
  unfold stuckM
  rw [h1, h2, decide_eq_true h3]
  rfl

end Go.Proofs.Ytmlobpapjfkbmaa
