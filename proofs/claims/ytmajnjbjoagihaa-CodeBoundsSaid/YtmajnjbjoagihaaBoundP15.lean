/- CodeBounds: the plain law; a program of zeros but for its last instruction. -/
import Derived.Test.YtmajnjbjoagihaaBackP15
import Derived.Laws.MakeOwn
namespace Go.Proofs.Ytmajnjbjoagihaa
open Go.RowKit
set_option linter.unusedVariables false
set_option linter.unusedSimpArgs false

def zI : I4 := (0, 0, 0, 0)
def zL (k : Nat) : List I4 := List.replicate k zI
theorem zL_length (k : Nat) : (zL k).length = k := by simp [zL]
def bndF (f k : Nat) (x : I4) : List (List I4) := List.replicate (f - 1) (zL k) ++ [zL (k - 1) ++ [x]]

theorem wrong_zI (g f s : Int) : wrongI g f s zI = -1 := by
  unfold wrongI zI okP kd
  simp [kdT, lim]
theorem badL_zero {g n s : Int} : ∀ (m : Nat) (k0 : Int) (l : List I4), badL g n s k0 (zL m ++ l) = badL g n s (k0 + m) l
  | 0, k0, l => by simp [zL]
  | m + 1, k0, l => by
    show badL g n s k0 (zI :: (zL m ++ l)) = _
    rw [badL, if_neg (by rw [wrong_zI]; omega), badL_zero m (k0 + 1) l]
    rw [show k0 + 1 + (m : Int) = k0 + ((m + 1 : Nat) : Int) by omega]
theorem badF_zero {g n : Int} (k : Nat) : ∀ (m : Nat) (k0 : Int) (R : List (List I4)), badF g n k0 (List.replicate m (zL k) ++ R) = badF g n (k0 + m * k) R
  | 0, k0, R => by simp
  | m + 1, k0, R => by
    show badF g n k0 (zL k :: (List.replicate m (zL k) ++ R)) = _
    have e := badL_zero (g := g) (n := n) (s := (zL k).length) k k0 []
    rw [List.append_nil] at e
    rw [badF, e]
    show badF g n (k0 + k) (List.replicate m (zL k) ++ R) = _
    rw [badF_zero k m (k0 + k) R]
    rw [show k0 + (k : Int) + (m : Int) * (k : Int) = k0 + ((m + 1 : Nat) : Int) * (k : Int) by rw [show ((m + 1 : Nat) : Int) = (m : Int) + 1 by omega, Int.add_mul]; omega]
theorem may_bounds {g : Int} {f k : Nat} {x : I4} (g1 : 0 ≤ g) (g2 : g ≤ 32) (f1 : 1 ≤ f) (f2 : f ≤ 16) (k1 : 1 ≤ k) (k2 : k ≤ 64) : mayI g (bndF f k x) = if 0 ≤ wrongI g f k x then 1 + (f : Int) * k else 0 := by
  have hl : (bndF f k x).length = f := by simp [bndF]; omega
  have hk : (zL (k - 1) ++ [x]).length = k := by simp [zL]; omega
  unfold mayI
  rw [hl, if_neg (by omega), if_neg]
  · have e : badF g f 1 (bndF f k x) = badF g f (1 + ((f - 1 : Nat) : Int) * k) [zL (k - 1) ++ [x]] := badF_zero k (f - 1) 1 _
    rw [e, badF, badL_zero (k - 1) _ [x], hk, badL]
    by_cases hw : 0 ≤ wrongI g f k x
    · rw [if_pos hw, if_pos hw]
      show 1 + ((f - 1 : Nat) : Int) * (k : Int) + ((k - 1 : Nat) : Int) + 1 = 1 + (f : Int) * (k : Int)
      rw [show ((f - 1 : Nat) : Int) = (f : Int) - 1 by omega, Int.sub_mul]
      omega
    · rw [if_neg hw, if_neg hw]
      rfl
  · rw [Bool.not_eq_false, List.all_eq_true]
    intro l hl
    unfold bndF at hl
    unfold lenOk
    simp only [List.mem_append, List.mem_replicate, List.mem_singleton] at hl
    rcases hl with ⟨-, rfl⟩ | rfl
    · simp [zL_length]; omega
    · simp only [hk]; simp; omega

/-- The instruction, and what its number must be below. -/
def bI (q : Nat) (x : Int) : I4 :=
  match q with
  | 0 => (2, x, 0, 0)
  | 1 => (3, 0, x, 0)
  | 2 => (6, 0, x, 0)
  | 3 => (7, x, 0, 0)
  | 4 => (8, x, 0, 0)
  | 5 => (14, x, 0, 0)
  | _ => (11, x, 0, 0)
def bM (q : Nat) (g : Int) (f k : Nat) : Int :=
  match q with
  | 0 => 16
  | 1 => 256
  | 2 => g
  | 3 => g
  | 4 => f
  | 5 => k
  | _ => 32
theorem wrong_bI {g : Int} {f k : Nat} {x : Int} (q : Nat) (hq : q < 7) : 0 ≤ wrongI g f k (bI q x) ↔ (x < 0 ∨ bM q g f k ≤ x) := by
  have key : ∀ m : Int, (decide (0 ≤ x ∧ x < m) = false) ↔ (x < 0 ∨ m ≤ x) := by
    intro m
    rw [decide_eq_false_iff_not]
    omega
  rcases (by omega : q = 0 ∨ q = 1 ∨ q = 2 ∨ q = 3 ∨ q = 4 ∨ q = 5 ∨ q = 6) with rfl | rfl | rfl | rfl | rfl | rfl | rfl
  all_goals
    unfold wrongI bI bM okP kd
    simp only [kdT, lim, key]
    simp [List.getD]
    try omega
  all_goals
    by_cases h : x < 0 ∨ _ ≤ x
    · simp [h]
    · simp [h]

end Go.Proofs.Ytmajnjbjoagihaa
