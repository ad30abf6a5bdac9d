/- CodeEarly: where the Ops stand; an Op that is none. -/
import Derived.Test.YtmajnjbjoagihaaBackP15
import Derived.Test.YtmajnjbjoagihaaMayL15
namespace Go.Proofs.Ytmajnjbjoagihaa
open Go.RowKit
set_option linter.unusedVariables false
set_option linter.unusedSimpArgs false

/-- The places of a function's Ops. -/
def opsL (a : Nat) : Nat → List Nat
  | 0 => []
  | n + 1 => a :: opsL (a + 4) n
/-- Of all functions'. -/
def opsF : Nat → List (List I4) → List Nat
  | _, [] => []
  | a, l :: F => opsL (a + 1) l.length ++ opsF (a + 1 + 4 * l.length) F

theorem opsL_mem : ∀ (n a x : Nat), x ∈ opsL a n → ∃ j, j < n ∧ x = a + 4 * j
  | 0, a, x, h => by cases h
  | n + 1, a, x, h => by
    rcases List.mem_cons.1 h with rfl | h
    · exact ⟨0, by omega, by omega⟩
    · obtain ⟨j, hj, e⟩ := opsL_mem n (a + 4) x h
      exact ⟨j + 1, by omega, by omega⟩
theorem opsL_length : ∀ (n a : Nat), (opsL a n).length = n
  | 0, a => rfl
  | n + 1, a => by simp [opsL, opsL_length n]
theorem opsL_snoc : ∀ (n a : Nat), opsL a (n + 1) = opsL a n ++ [a + 4 * n]
  | 0, a => rfl
  | n + 1, a => by
    show a :: opsL (a + 4) (n + 1) = a :: (opsL (a + 4) n ++ [a + 4 * (n + 1)])
    rw [opsL_snoc n (a + 4), show a + 4 + 4 * n = a + 4 * (n + 1) by omega]

/-- A script whose Op at x is none, whatever stands behind it. -/
theorem insts_bad {g n s : Int} {bs t : List Int} : ∀ (l : List I4) (j a : Nat) (acc : List I4), (∀ x ∈ l, wrongI g n s x < 0) → j < l.length → bs.drop a = (l.flatMap instB).take (4 * j) ++ 255 :: t → instsA g n s bs l.length a acc = .error (a + 4 * j)
  | [], j, a, acc, hw, hj, hd => by simp at hj
  | x :: l, 0, a, acc, hw, hj, hd => by
    have hd' : bs.drop a = 255 :: t := by simpa using hd
    show instsA g n s bs (l.length + 1) a acc = _
    rw [instsA, instD_bad hd']
    rfl
  | x :: l, j + 1, a, acc, hw, hj, hd => by
    have e : ((x :: l).flatMap instB).take (4 * (j + 1)) = instB x ++ (l.flatMap instB).take (4 * j) := by
      rw [List.flatMap_cons, List.take_append, show (instB x).length = 4 from rfl, List.take_of_length_le (by show 4 ≤ _; omega), show 4 * (j + 1) - 4 = 4 * j by omega]
    rw [e, List.append_assoc] at hd
    show instsA g n s bs (l.length + 1) a acc = _
    rw [instsA, instD_ok (hw x (by simp)) hd]
    dsimp only
    rw [insts_bad l j (a + 4) _ (fun y hy => hw y (by simp [hy])) (by simpa using hj) (drop4 hd)]
    rw [show a + 4 + 4 * j = a + 4 * (j + 1) by omega]
theorem instB_length (l : List I4) : (l.flatMap instB).length = 4 * l.length := by
  have := funB_length l
  unfold funB at this
  simp only [List.length_cons] at this
  omega
theorem funcs_bad {g n : Int} {bs t : List Int} : ∀ (F : List (List I4)) (a x : Nat) (acc : List (List I4)), (∀ l ∈ F, 1 ≤ l.length ∧ l.length ≤ 64) → (∀ l ∈ F, ∀ y ∈ l, wrongI g n l.length y < 0) → x ∈ opsF a F → bs.drop a = (F.flatMap funB).take (x - a) ++ 255 :: t → funcsA g n bs F.length a acc = .error x ∧ a < x
  | [], a, x, acc, h1, hw, hx, hd => by cases hx
  | l :: F, a, x, acc, h1, hw, hx, hd => by
    have hl := h1 l (by simp)
    have hib := instB_length l
    rw [opsF, List.mem_append] at hx
    rcases hx with hx | hx
    · obtain ⟨j, hj, rfl⟩ := opsL_mem _ _ _ hx
      have e : ((l :: F).flatMap funB).take (a + 1 + 4 * j - a) = (l.length : Int) :: (l.flatMap instB).take (4 * j) := by
        rw [List.flatMap_cons, show a + 1 + 4 * j - a = 4 * j + 1 by omega]
        unfold funB
        rw [List.cons_append, List.take_succ_cons, List.take_append, show 4 * j - (l.flatMap instB).length = 0 by omega]
        simp
      rw [e, List.cons_append] at hd
      obtain ⟨k1, k2, k3⟩ := getD_drop0 hd
      refine ⟨?_, by omega⟩
      show funcsA g n bs (F.length + 1) a acc = _
      rw [funcsA, if_neg (by omega), k1, if_neg (by omega), show ((l.length : Nat) : Int).toNat = l.length by omega, insts_bad l j (a + 1) [] (hw l (by simp)) hj k3]
    · have hgt : a + 1 + 4 * l.length < x := by
        have key : ∀ (G : List (List I4)) (b : Nat), x ∈ opsF b G → b < x := by
          intro G
          induction G with
          | nil => intro b h; cases h
          | cons m G ih =>
            intro b h
            rw [opsF, List.mem_append] at h
            rcases h with h | h
            · obtain ⟨j, -, rfl⟩ := opsL_mem _ _ _ h; omega
            · have := ih _ h; omega
        exact key F _ hx
      have e : ((l :: F).flatMap funB).take (x - a) = funB l ++ (F.flatMap funB).take (x - (a + 1 + 4 * l.length)) := by
        rw [List.flatMap_cons, List.take_append, funB_length, List.take_of_length_le (by rw [funB_length]; omega), show x - a - (1 + 4 * l.length) = x - (a + 1 + 4 * l.length) by omega]
      rw [e, List.append_assoc] at hd
      have hd2 := hd
      unfold funB at hd2
      rw [List.cons_append] at hd2
      obtain ⟨k1, k2, k3⟩ := getD_drop0 hd2
      have hi := instsA_ok (g := g) (n := n) (s := l.length) l _ (a + 1) [] (hw l (by simp)) k3 0
      have hd3 : bs.drop (a + 1 + 4 * l.length) = (F.flatMap funB).take (x - (a + 1 + 4 * l.length)) ++ 255 :: t := by
        have e2 : bs.drop (a + (funB l).length) = (F.flatMap funB).take (x - (a + 1 + 4 * l.length)) ++ 255 :: t := by
          rw [← List.drop_drop, hd]; simp
        rw [funB_length] at e2
        rw [show a + 1 + 4 * l.length = a + (1 + 4 * l.length) by omega]
        rw [show a + 1 + 4 * l.length = a + (1 + 4 * l.length) by omega] at e2
        exact e2
      obtain ⟨r1, r2⟩ := funcs_bad F (a + 1 + 4 * l.length) x (acc ++ [[] ++ l]) (fun m hm => h1 m (by simp [hm])) (fun m hm => hw m (by simp [hm])) hx hd3
      refine ⟨?_, by omega⟩
      show funcsA g n bs (F.length + 1) a acc = _
      rw [funcsA, if_neg (by omega), k1, if_neg (by omega), show ((l.length : Nat) : Int).toNat = l.length + 0 by omega, hi]
      exact r1
/-- With all ahead of it right. -/
theorem dec_early {g : Int} {F : List (List I4)} (h : MayBe g F) {x : Nat} (hx : x ∈ opsF 2 F) (t : List Int) : decD ((encB g F).take x ++ 255 :: t) = .error x := by
  have hx2 : 2 < x := by
    have key : ∀ (G : List (List I4)) (b : Nat), x ∈ opsF b G → b < x := by
      intro G
      induction G with
      | nil => intro b h; cases h
      | cons m G ih =>
        intro b h
        rw [opsF, List.mem_append] at h
        rcases h with h | h
        · obtain ⟨j, -, rfl⟩ := opsL_mem _ _ _ h; omega
        · have := ih _ h; omega
    exact key F _ hx
  obtain ⟨y, rfl⟩ : ∃ y, x = y + 2 := ⟨x - 2, by omega⟩
  have hb : (encB g F).take (y + 2) ++ 255 :: t = (F.length : Int) :: g :: ((F.flatMap funB).take y ++ 255 :: t) := by
    unfold encB
    rfl
  have hf := funcs_bad (g := g) (n := F.length) (bs := (encB g F).take (y + 2) ++ 255 :: t) (t := t) F 2 (y + 2) [] h.l1 h.x1 hx (by rw [hb]; rfl)
  rw [dec_head h hb, hf.1]
  rfl
/-- The first byte 0; the second 33. -/
theorem dec_zero (t : List Int) : decD (0 :: t) = .error 0 := by
  unfold decD
  rw [if_neg (by simp), if_pos (by simp)]
theorem dec_33 {n : Int} (t : List Int) (h1 : 1 ≤ n) (h2 : n ≤ 16) : decD (n :: 33 :: t) = .error 1 := by
  unfold decD
  have e0 : (n :: 33 :: t).getD 0 0 = n := rfl
  have e1 : (n :: 33 :: t).getD 1 0 = 33 := rfl
  rw [if_neg (by simp), e0, if_neg (by omega), if_neg (by simp), e1, if_pos (by omega)]
theorem opsF_pos {F : List (List I4)} (a : Nat) (h : F ≠ []) (h1 : ∀ l ∈ F, 1 ≤ l.length) : 0 < (opsF a F).length := by
  cases F with
  | nil => exact absurd rfl h
  | cons l F =>
    rw [opsF, List.length_append, opsL_length]
    have := h1 l (by simp)
    omega

theorem opsF_lt : ∀ (F : List (List I4)) (a x : Nat), x ∈ opsF a F → a < x ∧ x < a + (F.flatMap funB).length
  | [], a, x, h => by cases h
  | l :: F, a, x, h => by
    rw [opsF, List.mem_append] at h
    rw [List.flatMap_cons, List.length_append, funB_length]
    rcases h with h | h
    · obtain ⟨j, hj, rfl⟩ := opsL_mem _ _ _ h; omega
    · have := opsF_lt F _ x h; omega
theorem opsF_drop {F : List (List I4)} {i k : Nat} {l : List I4} (h : F[i]? = some l) : opsF k (F.drop i) = opsL (k + 1) l.length ++ opsF (k + 1 + 4 * l.length) (F.drop (i + 1)) := by
  obtain ⟨hi, rfl⟩ := get_is h
  rw [List.drop_eq_getElem_cons hi, opsF]

end Go.Proofs.Ytmajnjbjoagihaa
