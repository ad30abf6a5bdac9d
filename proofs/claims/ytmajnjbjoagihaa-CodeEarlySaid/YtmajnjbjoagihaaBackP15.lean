/- What the bytes of a program decode to; one less, one more, one turned. -/
import Derived.Test.YtmajnjbjoagihaaEncL15
import Derived.Test.YtmajnjbjoagihaaDecL15
namespace Go.Proofs.Ytmajnjbjoagihaa
open Go.RowKit
set_option linter.unusedVariables false
set_option linter.unusedSimpArgs false

theorem wrongI_prefix {g n s : Int} {x y : I4} {k : Nat} (h0 : y.1 = x.1) (h1 : 1 ≤ k → y.2.1 = x.2.1) (h2 : 2 ≤ k → y.2.2.1 = x.2.2.1) (h3 : 3 ≤ k → y.2.2.2 = x.2.2.2) (hw : 0 ≤ wrongI g n s y ∧ wrongI g n s y ≤ k) : wrongI g n s x = wrongI g n s y := by
  obtain ⟨x0, x1, x2, x3⟩ := x
  obtain ⟨y0, y1, y2, y3⟩ := y
  dsimp only at h0 h1 h2 h3
  subst h0
  unfold wrongI at hw ⊢
  dsimp only at hw ⊢
  by_cases c0 : y0 < 0 ∨ 17 < y0
  · rw [if_pos c0, if_pos c0]
  rw [if_neg c0] at hw ⊢
  rw [if_neg c0]
  by_cases c1 : okP g n s y0.toNat 0 y1 = false
  · rw [if_pos c1] at hw ⊢
    rw [← h1 (by omega), if_pos c1]
  rw [if_neg c1] at hw ⊢
  by_cases c2 : okP g n s y0.toNat 1 y2 = false
  · rw [if_pos c2] at hw ⊢
    rw [← h1 (by omega), ← h2 (by omega), if_neg c1, if_pos c2]
  rw [if_neg c2] at hw ⊢
  by_cases c3 : okP g n s y0.toNat 2 y3 = false
  · rw [if_pos c3] at hw ⊢
    rw [← h1 (by omega), ← h2 (by omega), ← h3 (by omega), if_neg c1, if_neg c2, if_pos c3]
  rw [if_neg c3] at hw
  omega

theorem byt_drop (bs : List Int) (a i : Nat) : byt bs (a + i) = (bs.drop a).getD i 0 := by
  unfold byt
  simp [List.getD, List.getElem?_drop]
theorem drop_len {bs t : List Int} {a : Nat} (h : bs.drop a = t) : t.length = bs.length - a := by rw [← h]; simp

/-- So much of an instruction as is there. -/
theorem instF_part {g n s : Int} {bs : List Int} {a : Nat} {x : I4} (hw : wrongI g n s x < 0) : ∀ f k, (∀ i, i < k + f → byt bs (a + i) = (instB x).getD i 0) → a + (k + f) ≤ bs.length → k + f ≤ 4 → ∀ e, instF g n s bs a (f + e) k = instF g n s bs a e (k + f)
  | 0, k, hb, hl, h4, e => by simp
  | f + 1, k, hb, hl, h4, e => by
    have hgo : ¬ (0 ≤ wrongI g n s (instAt bs a k) ∧ wrongI g n s (instAt bs a k) ≤ (k : Int)) := by
      intro hk
      have b0 := hb 0 (by omega)
      have e := wrongI_prefix (g := g) (n := n) (s := s) (x := x) (y := instAt bs a k) (k := k) (by simpa [instAt, instB] using b0)
        (fun h => by have := hb 1 (by omega); simpa [instAt, instB, h] using this) (fun h => by have := hb 2 (by omega); simpa [instAt, instB, h] using this) (fun h => by have := hb 3 (by omega); simpa [instAt, instB, h] using this) hk
      omega
    rw [show f + 1 + e = (f + e) + 1 by omega, instF_go (by omega) rfl hgo, instF_part hw f (k + 1) (fun i hi => hb i (by omega)) (by omega) (by omega) e]
    rw [show k + 1 + f = k + (f + 1) by omega]
theorem instD_ok {g n s : Int} {bs t : List Int} {a : Nat} {x : I4} (hw : wrongI g n s x < 0) (hd : bs.drop a = instB x ++ t) : instD g n s bs a = .ok x := by
  have hl := drop_len hd
  simp [instB] at hl
  have hb : ∀ i, i < 4 → byt bs (a + i) = (instB x).getD i 0 := by
    intro i hi
    rw [byt_drop, hd]
    rcases (by omega : i = 0 ∨ i = 1 ∨ i = 2 ∨ i = 3) with rfl | rfl | rfl | rfl <;> rfl
  have := instF_part (g := g) (n := n) (s := s) (bs := bs) (a := a) hw 4 0 (fun i hi => hb i (by omega)) (by omega) (by omega) 0
  unfold instD
  rw [show (4 : Nat) = 4 + 0 from rfl, this]
  have b0 := hb 0 (by omega)
  have b1 := hb 1 (by omega)
  have b2 := hb 2 (by omega)
  have b3 := hb 3 (by omega)
  simp only [instB, List.getD_cons_zero, List.getD_cons_succ, Nat.add_zero] at b0 b1 b2 b3
  simp [instF, instAt, b0, b1, b2, b3]
/-- Three of its four bytes. -/
theorem instD_short {g n s : Int} {bs : List Int} {a : Nat} {x : I4} (hw : wrongI g n s x < 0) (hd : bs.drop a = [x.1, x.2.1, x.2.2.1]) : instD g n s bs a = .error bs.length := by
  have hl := drop_len hd
  simp at hl
  have hb : ∀ i, i < 3 → byt bs (a + i) = (instB x).getD i 0 := by
    intro i hi
    rw [byt_drop, hd]
    rcases (by omega : i = 0 ∨ i = 1 ∨ i = 2) with rfl | rfl | rfl <;> rfl
  have := instF_part (g := g) (n := n) (s := s) (bs := bs) (a := a) hw 3 0 (fun i hi => hb i (by omega)) (by omega) (by omega) 1
  unfold instD
  rw [show (4 : Nat) = 3 + 1 from rfl, this]
  exact instF_end (by omega)
/-- An Op that is none. -/
theorem instD_bad {g n s : Int} {bs t : List Int} {a : Nat} (hd : bs.drop a = 255 :: t) : instD g n s bs a = .error a := by
  have hl := drop_len hd
  simp at hl
  have b0 : byt bs a = 255 := by
    have := byt_drop bs a 0
    rw [hd] at this
    simpa using this
  unfold instD
  have hw : wrongI g n s (instAt bs a 0) = 0 := by
    unfold wrongI instAt
    rw [if_pos (by simp [b0])]
  rw [show (4 : Nat) = 3 + 1 from rfl, instF_bad (by omega) hw (by omega)]
  rfl

theorem drop4 {bs t : List Int} {a : Nat} {x : I4} (hd : bs.drop a = instB x ++ t) : bs.drop (a + 4) = t := by
  rw [← List.drop_drop, hd]
  rfl
theorem instsA_ok {g n s : Int} {bs : List Int} : ∀ (l : List I4) (t : List Int) (a : Nat) (acc : List I4), (∀ x ∈ l, wrongI g n s x < 0) → bs.drop a = l.flatMap instB ++ t → ∀ c, instsA g n s bs (l.length + c) a acc = instsA g n s bs c (a + 4 * l.length) (acc ++ l)
  | [], t, a, acc, hw, hd, c => by simp
  | x :: l, t, a, acc, hw, hd, c => by
    rw [List.flatMap_cons, List.append_assoc] at hd
    rw [show (x :: l).length + c = (l.length + c) + 1 by simp; omega, instsA, instD_ok (hw x (by simp)) hd]
    dsimp only
    rw [instsA_ok l t (a + 4) (acc ++ [x]) (fun y hy => hw y (by simp [hy])) (drop4 hd) c]
    simp only [List.length_cons, List.append_assoc, List.cons_append, List.nil_append]
    rw [show a + 4 + 4 * l.length = a + 4 * (l.length + 1) by omega]
theorem dropLast_append_of {α : Type} (a b : List α) (h : b ≠ []) : (a ++ b).dropLast = a ++ b.dropLast := List.dropLast_append_of_ne_nil h
theorem instB_ne {x : I4} {l : List I4} : (x :: l).flatMap instB ≠ [] := by simp [instB]
theorem instsA_short {g n s : Int} {bs : List Int} : ∀ (l : List I4) (a : Nat) (acc : List I4), l ≠ [] → (∀ x ∈ l, wrongI g n s x < 0) → bs.drop a = (l.flatMap instB).dropLast → instsA g n s bs l.length a acc = .error bs.length
  | [], a, acc, h, hw, hd => absurd rfl h
  | [x], a, acc, h, hw, hd => by
    have hd' : bs.drop a = [x.1, x.2.1, x.2.2.1] := by rw [hd]; rfl
    show instsA g n s bs (0 + 1) a acc = _
    rw [instsA, instD_short (hw x (by simp)) hd']
  | x :: y :: l, a, acc, h, hw, hd => by
    rw [List.flatMap_cons, dropLast_append_of _ _ instB_ne] at hd
    show instsA g n s bs ((y :: l).length + 1) a acc = _
    rw [instsA, instD_ok (hw x (by simp)) hd]
    exact instsA_short (y :: l) (a + 4) (acc ++ [x]) (by simp) (fun z hz => hw z (by simp [hz])) (drop4 hd)

theorem getD_drop0 {bs t : List Int} {a : Nat} {b : Int} (hd : bs.drop a = b :: t) : bs.getD a 0 = b ∧ a < bs.length ∧ bs.drop (a + 1) = t := by
  have hl := drop_len hd
  simp at hl
  refine ⟨?_, by omega, ?_⟩
  · have := byt_drop bs a 0
    rw [hd] at this
    simpa [byt] using this
  · rw [← List.drop_drop, hd]; rfl
theorem funcsA_ok {g n : Int} {bs : List Int} : ∀ (F : List (List I4)) (t : List Int) (a : Nat) (acc : List (List I4)), (∀ l ∈ F, 1 ≤ l.length ∧ l.length ≤ 64) → (∀ l ∈ F, ∀ x ∈ l, wrongI g n l.length x < 0) → bs.drop a = F.flatMap funB ++ t → ∀ c, funcsA g n bs (F.length + c) a acc = funcsA g n bs c (a + (F.flatMap funB).length) (acc ++ F)
  | [], t, a, acc, h1, hw, hd, c => by simp
  | l :: F, t, a, acc, h1, hw, hd, c => by
    rw [List.flatMap_cons, List.append_assoc] at hd
    have hd2 := hd
    unfold funB at hd2
    rw [List.cons_append] at hd2
    obtain ⟨k1, k2, k3⟩ := getD_drop0 hd2
    have hl := h1 l (by simp)
    rw [show (l :: F).length + c = (F.length + c) + 1 by simp; omega, funcsA, if_neg (by omega), k1, if_neg (by omega)]
    have hi := instsA_ok (g := g) (n := n) (s := l.length) l _ (a + 1) [] (hw l (by simp)) k3 0
    rw [show ((l.length : Nat) : Int).toNat = l.length + 0 by omega, hi]
    show funcsA g n bs (F.length + c) (a + 1 + 4 * l.length) (acc ++ [[] ++ l]) = _
    rw [funcsA_ok F t _ _ (fun m hm => h1 m (by simp [hm])) (fun m hm => hw m (by simp [hm])) (by
      have e : bs.drop (a + (funB l).length) = F.flatMap funB ++ t := by
        rw [← List.drop_drop, hd]; simp
      rw [funB_length] at e
      rw [show a + 1 + 4 * l.length = a + (1 + 4 * l.length) by omega]
      exact e) c]
    rw [List.flatMap_cons, List.length_append, funB_length]
    simp only [List.nil_append, List.append_assoc, List.cons_append]
    rw [show a + 1 + 4 * l.length + (F.flatMap funB).length = a + (1 + 4 * l.length + (F.flatMap funB).length) by omega]
theorem funB_ne {l : List I4} {F : List (List I4)} : (l :: F).flatMap funB ≠ [] := by simp [funB]
theorem funcsA_short {g n : Int} {bs : List Int} : ∀ (F : List (List I4)) (a : Nat) (acc : List (List I4)), F ≠ [] → (∀ l ∈ F, 1 ≤ l.length ∧ l.length ≤ 64) → (∀ l ∈ F, ∀ x ∈ l, wrongI g n l.length x < 0) → bs.drop a = (F.flatMap funB).dropLast → funcsA g n bs F.length a acc = .error bs.length
  | [], a, acc, h, h1, hw, hd => absurd rfl h
  | [l], a, acc, h, h1, hw, hd => by
    have hl := h1 l (by simp)
    have hne : l ≠ [] := by intro e; rw [e] at hl; simp at hl
    obtain ⟨x, l', rfl⟩ : ∃ x l', l = x :: l' := by cases l with | nil => exact absurd rfl hne | cons x l' => exact ⟨x, l', rfl⟩
    have hd2 : bs.drop a = ((x :: l').length : Int) :: ((x :: l').flatMap instB).dropLast := by
      rw [hd, List.flatMap_cons, List.flatMap_nil, List.append_nil]
      unfold funB
      rw [List.dropLast_cons_of_ne_nil instB_ne]
    obtain ⟨k1, k2, k3⟩ := getD_drop0 hd2
    show funcsA g n bs (0 + 1) a acc = _
    rw [funcsA, if_neg (by omega), k1, if_neg (by omega), show (((x :: l').length : Nat) : Int).toNat = (x :: l').length by omega,
      instsA_short (x :: l') (a + 1) [] (by simp) (hw _ (by simp)) k3]
  | l :: m :: F, a, acc, h, h1, hw, hd => by
    rw [List.flatMap_cons, dropLast_append_of _ _ funB_ne] at hd
    have hd2 := hd
    unfold funB at hd2
    rw [List.cons_append] at hd2
    obtain ⟨k1, k2, k3⟩ := getD_drop0 hd2
    have hl := h1 l (by simp)
    show funcsA g n bs ((m :: F).length + 1) a acc = _
    rw [funcsA, if_neg (by omega), k1, if_neg (by omega)]
    have hi := instsA_ok (g := g) (n := n) (s := l.length) l _ (a + 1) [] (hw l (by simp)) k3 0
    rw [show ((l.length : Nat) : Int).toNat = l.length + 0 by omega, hi]
    refine funcsA_short (m :: F) _ _ (by simp) (fun q hq => h1 q (by simp [hq])) (fun q hq => hw q (by simp [hq])) ?_
    have e : bs.drop (a + (funB l).length) = ((m :: F).flatMap funB).dropLast := by
      rw [← List.drop_drop, hd]; simp
    rw [funB_length] at e
    rw [show a + 1 + 4 * l.length = a + (1 + 4 * l.length) by omega]
    exact e

/-- The head of a script. -/
theorem dec_head {g : Int} {F : List (List I4)} (h : MayBe g F) {bs t : List Int} (hb : bs = (F.length : Int) :: g :: t) : decD bs = finD bs g (funcsA g F.length bs F.length 2 []) := by
  have n1 := h.n1; have n2 := h.n2; have g1 := h.g1; have g2 := h.g2
  have e0 : bs.getD 0 0 = (F.length : Int) := by rw [hb]; rfl
  have e1 : bs.getD 1 0 = g := by rw [hb]; rfl
  have hl : 2 ≤ bs.length := by rw [hb]; simp
  unfold decD
  rw [if_neg (by omega), e0, if_neg (by omega), if_neg (by omega), e1, if_neg (by omega), show ((F.length : Nat) : Int).toNat = F.length by omega]
theorem dec_enc {g : Int} {F : List (List I4)} (h : MayBe g F) (t : List Int) : decD (encB g F ++ t) = if t = [] then .ok (g, F) else .error (encB g F).length := by
  have hb : encB g F ++ t = (F.length : Int) :: g :: (F.flatMap funB ++ t) := by unfold encB; rfl
  rw [dec_head h hb, show F.length = F.length + 0 by omega, funcsA_ok F t 2 [] h.l1 (by simpa using h.x1) (by rw [hb]; rfl) 0]
  have e : (encB g F).length = 2 + (F.flatMap funB).length := by unfold encB; simp; omega
  unfold finD funcsA
  dsimp only
  rw [List.length_append, e]
  by_cases ht : t = []
  · subst ht
    rw [if_neg (by simp), if_pos rfl]
    rfl
  · have : 0 < t.length := List.length_pos_iff.2 ht
    rw [if_pos (by omega), if_neg ht]
theorem dec_short {g : Int} {F : List (List I4)} (h : MayBe g F) : decD (encB g F).dropLast = .error ((encB g F).length - 1) := by
  have n1 := h.n1
  have hne : F.flatMap funB ≠ [] := by
    cases F with
    | nil => simp at n1
    | cons l F => exact funB_ne
  have hb : (encB g F).dropLast = (F.length : Int) :: g :: (F.flatMap funB).dropLast := by
    unfold encB
    rw [List.dropLast_cons_of_ne_nil (by simp), List.dropLast_cons_of_ne_nil hne]
  rw [dec_head h hb, funcsA_short F 2 [] (by intro e; rw [e] at n1; simp at n1) h.l1 h.x1 (by rw [hb]; rfl)]
  simp [finD]

end Go.Proofs.Ytmajnjbjoagihaa
