/- Programs' bytes. -/
import Derived.Test.YtmajnjbjoagihaaMayL15
import Derived.Laws.BytesArg
namespace Go.Proofs.Ytmajnjbjoagihaa
open Go.RowKit
set_option linter.unusedVariables false
set_option linter.unusedSimpArgs false

def instB (x : I4) : List Int := [x.1, x.2.1, x.2.2.1, x.2.2.2]
def funB (l : List I4) : List Int := (l.length : Int) :: l.flatMap instB
/-- The bytes. -/
def encB (g : Int) (F : List (List I4)) : List Int := (F.length : Int) :: g :: F.flatMap funB
def bV (bs : List Int) : List Value := bs.map (Value.int .u8)

theorem okP_bd {g f s : Int} {op k : Nat} {v : Int} (hg : g ≤ 32) (hf : f ≤ 16) (hs : s ≤ 64) (h : okP g f s op k v = true) : 0 ≤ v ∧ v < 256 := by
  unfold okP at h
  have h := of_decide_eq_true h
  have hk := kd_lt op k
  refine ⟨h.1, ?_⟩
  have : lim g f s (kd op k) ≤ 256 := by
    rcases (by omega : kd op k = 0 ∨ kd op k = 1 ∨ kd op k = 2 ∨ kd op k = 3 ∨ kd op k = 4 ∨ kd op k = 5 ∨ kd op k = 6) with e | e | e | e | e | e | e <;> rw [e] <;> simp [lim] <;> omega
  omega
theorem wrongI_neg {g f s : Int} {x : I4} (h : wrongI g f s x < 0) : (0 ≤ x.1 ∧ x.1 ≤ 17) ∧ okP g f s x.1.toNat 0 x.2.1 = true ∧ okP g f s x.1.toNat 1 x.2.2.1 = true ∧ okP g f s x.1.toNat 2 x.2.2.2 = true := by
  unfold wrongI at h
  by_cases h1 : x.1 < 0 ∨ 17 < x.1
  · rw [if_pos h1] at h; omega
  rw [if_neg h1] at h
  by_cases h2 : okP g f s x.1.toNat 0 x.2.1 = false
  · rw [if_pos h2] at h; omega
  rw [if_neg h2] at h
  by_cases h3 : okP g f s x.1.toNat 1 x.2.2.1 = false
  · rw [if_pos h3] at h; omega
  rw [if_neg h3] at h
  by_cases h4 : okP g f s x.1.toNat 2 x.2.2.2 = false
  · rw [if_pos h4] at h; omega
  exact ⟨by omega, by simpa using h2, by simpa using h3, by simpa using h4⟩
theorem wrong_bd {g f s : Int} {x : I4} (hg : g ≤ 32) (hf : f ≤ 16) (hs : s ≤ 64) (h : wrongI g f s x < 0) : (0 ≤ x.1 ∧ x.1 < 256) ∧ (0 ≤ x.2.1 ∧ x.2.1 < 256) ∧ (0 ≤ x.2.2.1 ∧ x.2.2.1 < 256) ∧ (0 ≤ x.2.2.2 ∧ x.2.2.2 < 256) := by
  obtain ⟨h1, h2, h3, h4⟩ := wrongI_neg h
  exact ⟨by omega, okP_bd hg hf hs h2, okP_bd hg hf hs h3, okP_bd hg hf hs h4⟩

theorem badL_error {g n s : Int} : ∀ (l : List I4) (k e : Int), badL g n s k l = .error e → k < e
  | [], k, e, h => by cases h
  | x :: l, k, e, h => by
    rw [badL] at h
    split at h
    · cases h; omega
    · have := badL_error l (k + 1) e h; omega
theorem badL_ok {g n s : Int} : ∀ (l : List I4) (k k' : Int), badL g n s k l = .ok k' → k' = k + l.length ∧ ∀ x ∈ l, wrongI g n s x < 0
  | [], k, k', h => by cases h; exact ⟨by simp, fun x hx => by cases hx⟩
  | x :: l, k, k', h => by
    rw [badL] at h
    split at h
    · cases h
    · obtain ⟨h1, h2⟩ := badL_ok l (k + 1) k' h
      refine ⟨by simp only [List.length_cons]; omega, fun y hy => ?_⟩
      rcases List.mem_cons.1 hy with rfl | hy
      · omega
      · exact h2 y hy
theorem badF_error {g n : Int} : ∀ (F : List (List I4)) (k e : Int), badF g n k F = .error e → k < e
  | [], k, e, h => by cases h
  | l :: F, k, e, h => by
    rw [badF] at h
    cases hb : badL g n l.length k l with
    | error e' => rw [hb] at h; cases h; exact badL_error l k _ hb
    | ok k' =>
      rw [hb] at h
      have h1 := (badL_ok l k k' hb).1
      have := badF_error F k' e h
      omega
theorem badF_ok {g n : Int} : ∀ (F : List (List I4)) (k k' : Int), badF g n k F = .ok k' → ∀ l ∈ F, ∀ x ∈ l, wrongI g n l.length x < 0
  | [], k, k', h, l, hl => by cases hl
  | l0 :: F, k, k', h, l, hl => by
    rw [badF] at h
    cases hb : badL g n l0.length k l0 with
    | error e' => rw [hb] at h; cases h
    | ok k1 =>
      rw [hb] at h
      rcases List.mem_cons.1 hl with rfl | hl
      · exact (badL_ok l k k1 hb).2
      · exact badF_ok F k1 k' h l hl
/-- A program that may be. -/
structure MayBe (g : Int) (F : List (List I4)) : Prop where
  n1 : 1 ≤ F.length
  n2 : F.length ≤ 16
  g1 : 0 ≤ g
  g2 : g ≤ 32
  l1 : ∀ l ∈ F, 1 ≤ l.length ∧ l.length ≤ 64
  x1 : ∀ l ∈ F, ∀ x ∈ l, wrongI g F.length l.length x < 0
theorem may_zero {g : Int} {F : List (List I4)} (h : mayI g F = 0) : MayBe g F := by
  unfold mayI at h
  by_cases h1 : F.length < 1 ∨ 16 < F.length ∨ g < 0 ∨ 32 < g
  · rw [if_pos h1] at h; cases h
  rw [if_neg h1] at h
  by_cases h2 : F.all lenOk = false
  · rw [if_pos h2] at h; cases h
  rw [if_neg h2] at h
  rw [Bool.not_eq_false, List.all_eq_true] at h2
  have h3 : ∀ l ∈ F, 1 ≤ l.length ∧ l.length ≤ 64 := fun l hl => by have := h2 l hl; unfold lenOk at this; exact of_decide_eq_true this
  cases hb : badF g F.length 1 F with
  | error e =>
    rw [hb] at h
    have := badF_error F 1 e hb
    have h : e = 0 := h
    omega
  | ok k => exact ⟨by omega, by omega, by omega, by omega, h3, fun l hl => badF_ok F 1 k hb l hl⟩
theorem MayBe.may {g : Int} {F : List (List I4)} (h : MayBe g F) : mayI g F = 0 := by
  have key : ∀ (l : List I4) (n s k : Int), (∀ x ∈ l, wrongI g n s x < 0) → ∃ k', badL g n s k l = .ok k' := by
    intro l n s
    induction l with
    | nil => intro k _; exact ⟨k, rfl⟩
    | cons x l ih =>
      intro k hx
      rw [badL, if_neg (by have := hx x (by simp); omega)]
      exact ih _ (fun y hy => hx y (by simp [hy]))
  have key2 : ∀ (G : List (List I4)) (n k : Int), (∀ l ∈ G, ∀ x ∈ l, wrongI g n l.length x < 0) → ∃ k', badF g n k G = .ok k' := by
    intro G n
    induction G with
    | nil => intro k _; exact ⟨k, rfl⟩
    | cons l G ih =>
      intro k hx
      obtain ⟨k1, hk1⟩ := key l n l.length k (hx l (by simp))
      rw [badF, hk1]
      exact ih _ (fun y hy => hx y (by simp [hy]))
  obtain ⟨k', hk⟩ := key2 F F.length 1 h.x1
  unfold mayI
  have := h.n1; have := h.n2; have := h.g1; have := h.g2
  rw [if_neg (by omega), if_neg, hk]
  · rfl
  · rw [Bool.not_eq_false, List.all_eq_true]
    intro l hl
    have := h.l1 l hl
    unfold lenOk
    simpa using this

theorem funB_length (l : List I4) : (funB l).length = 1 + 4 * l.length := by
  unfold funB
  have : (l.flatMap instB).length = 4 * l.length := by
    induction l with
    | nil => rfl
    | cons x l ih => rw [List.flatMap_cons, List.length_append, ih]; simp [instB]; omega
  simp [this]; omega
theorem encF_length {F : List (List I4)} (h : ∀ l ∈ F, l.length ≤ 64) : (F.flatMap funB).length ≤ 257 * F.length := by
  induction F with
  | nil => simp
  | cons l F ih =>
    rw [List.flatMap_cons, List.length_append, funB_length]
    have := ih (fun m hm => h m (by simp [hm]))
    have := h l (by simp)
    simp only [List.length_cons]
    omega
theorem encB_bytes {g : Int} {F : List (List I4)} (h : MayBe g F) : ∀ b ∈ encB g F, 0 ≤ b ∧ b < 256 := by
  intro b hb
  have n2 := h.n2; have g1 := h.g1; have g2 := h.g2
  unfold encB at hb
  simp only [List.mem_cons, List.mem_flatMap] at hb
  rcases hb with rfl | rfl | ⟨l, hl, hb⟩
  · omega
  · omega
  · have hl2 := h.l1 l hl
    unfold funB at hb
    simp only [List.mem_cons, List.mem_flatMap] at hb
    rcases hb with rfl | ⟨x, hx, hb⟩
    · omega
    · obtain ⟨b0, b1, b2, b3⟩ := wrong_bd g2 (by omega) (by omega) (h.x1 l hl x hx)
      unfold instB at hb
      simp only [List.mem_cons, List.not_mem_nil, or_false] at hb
      rcases hb with rfl | rfl | rfl | rfl <;> omega
theorem encB_length {g : Int} {F : List (List I4)} (h : MayBe g F) : 7 ≤ (encB g F).length ∧ (encB g F).length ≤ 5000 := by
  have h1 := encF_length (fun l hl => (h.l1 l hl).2)
  have n1 := h.n1; have n2 := h.n2
  unfold encB
  simp only [List.length_cons]
  refine ⟨?_, by omega⟩
  cases F with
  | nil => simp at n1
  | cons l F =>
    rw [List.flatMap_cons, List.length_append, funB_length]
    have := (h.l1 l (by simp)).1
    omega

/-- A block just laid, as a row. -/
theorem row_block (w : World) {base : Nat} {e : TypeId} (cs : Array Value) (n : Nat) (hn : cs.size = n) (hb : base ≤ w.heap.size) (hm : n ≤ maxLen) : (w.alloc (.cells cs e)).ownsRow base e 1 (.slice (some ⟨w.heap.size, 0, none⟩) n n) n cs.toList := by
  subst hn
  exact ⟨by simp, .inr ⟨w.heap.size, cs.size, cs, rfl, hb, heap_alloc_new w _, Nat.le_refl _, hm, by omega, by rw [Nat.mul_one]; exact List.take_of_length_le (by simp)⟩⟩
theorem bV_append (a b : List Int) : bV (a ++ b) = bV a ++ bV b := by simp [bV]
theorem bV_length (a : List Int) : (bV a).length = a.length := by simp [bV]

end Go.Proofs.Ytmajnjbjoagihaa
