/- Programs: which may be; how they are read. -/
import Derived.Test.YtmajnjbjoagihaaDecL15
namespace Go.Proofs.Ytmajnjbjoagihaa
open Go.RowKit
set_option linter.unusedVariables false
set_option linter.unusedSimpArgs false

def badL (g n s : Int) : Int → List I4 → Except Int Int
  | k, [] => .ok k
  | k, x :: l => if 0 ≤ wrongI g n s x then .error (k + 1) else badL g n s (k + 1) l
def badF (g n : Int) : Int → List (List I4) → Except Int Int
  | k, [] => .ok k
  | k, l :: F => match badL g n l.length k l with
    | .error e => .error e
    | .ok k' => badF g n k' F
def lenOk (l : List I4) : Bool := decide (1 ≤ l.length ∧ l.length ≤ 64)
def outM : Except Int Int → Int
  | .error e => e
  | .ok _ => 0
/-- 0, or what may not be. -/
def mayI (g : Int) (F : List (List I4)) : Int :=
  if F.length < 1 ∨ 16 < F.length ∨ g < 0 ∨ 32 < g then 1 else if F.all lenOk = false then 1 else outM (badF g F.length 1 F)

theorem may_head {g : Int} {F : List (List I4)} (h : F.length < 1 ∨ 16 < F.length ∨ g < 0 ∨ 32 < g) : mayI g F = 1 := by
  unfold mayI; rw [if_pos h]
theorem may_len {g : Int} {F : List (List I4)} {i : Nat} (hi : i < F.length) (h : (F[i]).length < 1 ∨ 64 < (F[i]).length) : mayI g F = 1 := by
  unfold mayI
  by_cases k : F.length < 1 ∨ 16 < F.length ∨ g < 0 ∨ 32 < g
  · rw [if_pos k]
  · rw [if_neg k, if_pos]
    rw [List.all_eq_false]
    refine ⟨F[i], List.getElem_mem hi, ?_⟩
    unfold lenOk
    simp
    omega
theorem may_body {g : Int} {F : List (List I4)} (h1 : 1 ≤ F.length) (h2 : F.length ≤ 16) (h3 : 0 ≤ g) (h4 : g ≤ 32) (h5 : ∀ i (hi : i < F.length), 1 ≤ (F[i]).length ∧ (F[i]).length ≤ 64) : mayI g F = outM (badF g F.length 1 F) := by
  unfold mayI
  rw [if_neg (by omega), if_neg]
  rw [Bool.not_eq_false, List.all_eq_true]
  intro l hl
  obtain ⟨i, hi, rfl⟩ := List.getElem_of_mem hl
  unfold lenOk
  simpa using h5 i hi
theorem badF_drop {g n k : Int} {F : List (List I4)} {i : Nat} (hi : i < F.length) : badF g n k (F.drop i) = match badL g n (F[i]).length k F[i] with
    | .error e => .error e
    | .ok k' => badF g n k' (F.drop (i + 1)) := by
  rw [List.drop_eq_getElem_cons hi, badF]
theorem badL_drop {g n s k : Int} {l : List I4} {i : Nat} (hi : i < l.length) : badL g n s k (l.drop i) = if 0 ≤ wrongI g n s l[i] then .error (k + 1) else badL g n s (k + 1) (l.drop (i + 1)) := by
  rw [List.drop_eq_getElem_cons hi, badL]

theorem RdI.ex {w w' : World} {v : Value} {l : List I4} (h : RdI w v l) (x : Ex w w') : RdI w' v l := by
  rcases h with h1 | ⟨g, o, cap, h1, h2, h3, h4⟩
  · exact .inl h1
  · exact .inr ⟨g, o, cap, h1, Nat.lt_of_lt_of_le h2 x.size, h3, fun i u hi => cell_later x (h4 i u hi)⟩
theorem RdP.ex {w w' : World} {v : Value} {F : List (List I4)} (h : RdP w v F) (x : Ex w w') : RdP w' v F := by
  rcases h with h1 | ⟨g, o, cap, lv, h1, h2, h3, h4⟩
  · exact .inl h1
  · exact .inr ⟨g, o, cap, lv, h1, Nat.lt_of_lt_of_le h2 x.size, h3, fun i hi => ⟨cell_later x (h4 i hi).1, (h4 i hi).2.ex x⟩⟩
theorem RdP.val {w : World} {v : Value} {F : List (List I4)} (h : RdP w v F) : ∃ a cap, v = .slice a F.length cap := by
  rcases h with ⟨⟨a, c, h1⟩, h2⟩ | ⟨g, o, cap, lv, h1, -⟩
  · exact ⟨a, c, by rw [h1, h2]; rfl⟩
  · exact ⟨_, cap, h1⟩
theorem RdI.val {w : World} {v : Value} {l : List I4} (h : RdI w v l) : ∃ a cap, v = .slice a l.length cap ∧ l.length ≤ cap := by
  rcases h with ⟨⟨a, c, h1⟩, h2⟩ | ⟨g, o, cap, h1, -, h3, -⟩
  · exact ⟨a, c, by rw [h1, h2]; rfl, by simp [h2]⟩
  · exact ⟨_, cap, h1, h3⟩
/-- A function of it. -/
theorem RdP.at {w : World} {a : Option Addr} {n cap : Nat} {F : List (List I4)} (h : RdP w (.slice a n cap) F) (i : Nat) (hi : i < F.length) : ∃ g o a' cap', a = some ⟨g, o, none⟩ ∧ n = F.length ∧ n ≤ cap ∧ g < w.heap.size ∧
    w.cell? ⟨g, o + i, none⟩ = some (.slice a' (F[i]).length cap') ∧ (F[i]).length ≤ cap' ∧ RdI w (.slice a' (F[i]).length cap') F[i] := by
  rcases h with ⟨-, h2⟩ | ⟨g, o, cap', lv, h1, h2, h3, h4⟩
  · subst h2; simp at hi
  · simp only [Value.slice.injEq] at h1
    obtain ⟨rfl, rfl, rfl⟩ := h1
    obtain ⟨h5, h6⟩ := h4 i hi
    obtain ⟨a', c', e, hl⟩ := h6.val
    rw [e] at h5 h6
    exact ⟨g, o, a', c', rfl, rfl, h3, h2, h5, hl, h6⟩
theorem cells4_at : ∀ (l : List I4) (k : Nat) (h : k < l.length), (cells4 l)[k * 4]? = some (.int .i64 l[k].1) ∧ (cells4 l)[k * 4 + 1]? = some (.int .i64 l[k].2.1) ∧ (cells4 l)[k * 4 + 2]? = some (.int .i64 l[k].2.2.1) ∧ (cells4 l)[k * 4 + 3]? = some (.int .i64 l[k].2.2.2)
  | [], k, h => by simp at h
  | p :: l, 0, h => by simp [cells4]
  | p :: l, k + 1, h => by
    have ih := cells4_at l k (by simpa using h)
    rw [show (k + 1) * 4 = k * 4 + 4 by omega, show k * 4 + 4 + 1 = k * 4 + 1 + 4 by omega, show k * 4 + 4 + 2 = k * 4 + 2 + 4 by omega, show k * 4 + 4 + 3 = k * 4 + 3 + 4 by omega]
    simpa [cells4] using ih
/-- An instruction of it. -/
theorem RdI.at {w : World} {a : Option Addr} {n cap : Nat} {l : List I4} (h : RdI w (.slice a n cap) l) (i : Nat) (hi : i < l.length) : ∃ g o, a = some ⟨g, o, none⟩ ∧ g < w.heap.size ∧
    w.cell? ⟨g, o + i * 4, none⟩ = some (.int .i64 l[i].1) ∧ w.cell? ⟨g, o + i * 4 + 1, none⟩ = some (.int .i64 l[i].2.1) ∧ w.cell? ⟨g, o + i * 4 + 2, none⟩ = some (.int .i64 l[i].2.2.1) ∧ w.cell? ⟨g, o + i * 4 + 3, none⟩ = some (.int .i64 l[i].2.2.2) := by
  rcases h with ⟨-, h2⟩ | ⟨g, o, cap', h1, h2, h3, h4⟩
  · subst h2; simp at hi
  · simp only [Value.slice.injEq] at h1
    obtain ⟨rfl, rfl, rfl⟩ := h1
    obtain ⟨c0, c1, c2, c3⟩ := cells4_at l i hi
    exact ⟨g, o, rfl, h2, h4 _ _ c0, by rw [Nat.add_assoc]; exact h4 _ _ c1, by rw [Nat.add_assoc]; exact h4 _ _ c2, by rw [Nat.add_assoc]; exact h4 _ _ c3⟩

/-- The same, the function and the instruction by name. -/
theorem get_some {α : Type} {F : List α} {i : Nat} (hi : i < F.length) : ∃ l, F[i]? = some l := ⟨F[i], by simp [hi]⟩
theorem get_is {α : Type} {F : List α} {i : Nat} {l : α} (h : F[i]? = some l) : ∃ hi : i < F.length, F[i] = l := List.getElem?_eq_some_iff.1 h
theorem RdP.at2 {w : World} {a : Option Addr} {n cap : Nat} {F : List (List I4)} (h : RdP w (.slice a n cap) F) {i : Nat} {l : List I4} (hl : F[i]? = some l) : ∃ g o a' cap', a = some ⟨g, o, none⟩ ∧ n = F.length ∧ n ≤ cap ∧ g < w.heap.size ∧
    w.cell? ⟨g, o + i, none⟩ = some (.slice a' l.length cap') ∧ l.length ≤ cap' ∧ RdI w (.slice a' l.length cap') l := by
  obtain ⟨hi, rfl⟩ := get_is hl
  exact h.at i hi
theorem RdI.at2 {w : World} {a : Option Addr} {n cap : Nat} {l : List I4} (h : RdI w (.slice a n cap) l) {i : Nat} {x : I4} (hx : l[i]? = some x) : ∃ g o, a = some ⟨g, o, none⟩ ∧ g < w.heap.size ∧
    w.cell? ⟨g, o + i * 4, none⟩ = some (.int .i64 x.1) ∧ w.cell? ⟨g, o + i * 4 + 1, none⟩ = some (.int .i64 x.2.1) ∧ w.cell? ⟨g, o + i * 4 + 2, none⟩ = some (.int .i64 x.2.2.1) ∧ w.cell? ⟨g, o + i * 4 + 3, none⟩ = some (.int .i64 x.2.2.2) := by
  obtain ⟨hi, rfl⟩ := get_is hx
  exact h.at i hi
theorem may_len2 {g : Int} {F : List (List I4)} {i : Nat} {l : List I4} (hl : F[i]? = some l) (h : l.length < 1 ∨ 64 < l.length) : mayI g F = 1 := by
  obtain ⟨hi, rfl⟩ := get_is hl
  exact may_len hi h
theorem may_body2 {g : Int} {F : List (List I4)} (h1 : 1 ≤ F.length) (h2 : F.length ≤ 16) (h3 : 0 ≤ g) (h4 : g ≤ 32) (h5 : ∀ (i : Nat) (l : List I4), F[i]? = some l → 1 ≤ l.length ∧ l.length ≤ 64) : mayI g F = outM (badF g F.length 1 F) :=
  may_body h1 h2 h3 h4 (fun i hi => h5 i F[i] (by simp [hi]))
/-- What is behind a function. -/
def thenF (g n : Int) (R : List (List I4)) : Except Int Int → Except Int Int
  | .error e => .error e
  | .ok k' => badF g n k' R
theorem badF_drop2 {g n k : Int} {F : List (List I4)} {i : Nat} {l : List I4} (hl : F[i]? = some l) : badF g n k (F.drop i) = thenF g n (F.drop (i + 1)) (badL g n l.length k l) := by
  obtain ⟨hi, rfl⟩ := get_is hl
  rw [badF_drop hi]
  cases badL g n (F[i]).length k F[i] <;> rfl
theorem badL_drop2 {g n s k : Int} {l : List I4} {i : Nat} {x : I4} (hx : l[i]? = some x) : badL g n s k (l.drop i) = if 0 ≤ wrongI g n s x then .error (k + 1) else badL g n s (k + 1) (l.drop (i + 1)) := by
  obtain ⟨hi, rfl⟩ := get_is hx
  exact badL_drop hi

end Go.Proofs.Ytmajnjbjoagihaa
