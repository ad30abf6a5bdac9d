/- ModelCounts: plain. -/
import Derived.Test.YtmlobpapjfkbmaaPIns16
namespace Go.Proofs.Ytmlobpapjfkbmaa
set_option linter.unusedVariables false
set_option maxRecDepth 20000
set_option linter.unusedSimpArgs false

def f0C (k : Nat) : List C15.I4 := [(8, 1, 0, 0), (16, ((k / 256 : Nat) : Int), ((k % 256 : Nat) : Int), 0), (4, 1, 2, 0), (17, 2, 0, 0)]
def f1C (j : Nat) : List C15.I4 := [(16, ((j / 256 : Nat) : Int), ((j % 256 : Nat) : Int), 0), (4, 1, 2, 0), (17, 1, 0, 0)]
def FC (k j : Nat) : Fns := [f0C k, f1C j]
theorem may_C (k j : Nat) (hk : k < 700) (hj : j < 50) : C15.mayI ((0 : Nat) : Int) (FC k j) = 0 := by
  refine C15.MayBe.may ⟨by simp [FC], by simp [FC], by decide, by decide, ?_, ?_⟩
  · intro q hq
    simp only [FC, List.mem_cons, List.mem_nil_iff, or_false] at hq
    rcases hq with rfl | rfl <;> simp [f0C, f1C]
  · intro q hq x hx
    simp only [FC, List.mem_cons, List.mem_nil_iff, or_false] at hq
    rcases hq with rfl | rfl
    · simp only [f0C, List.mem_cons, List.mem_nil_iff, or_false] at hx
      rcases hx with rfl | rfl | rfl | rfl
      · exact of_decide_eq_true rfl
      · simp [C15.wrongI, C15.okP, C15.kd, C15.kdT, C15.lim]; omega
      · exact of_decide_eq_true rfl
      · exact of_decide_eq_true rfl
    · simp only [f1C, List.mem_cons, List.mem_nil_iff, or_false] at hx
      rcases hx with rfl | rfl | rfl
      · simp [C15.wrongI, C15.okP, C15.kd, C15.kdT, C15.lim]; omega
      · exact of_decide_eq_true rfl
      · exact of_decide_eq_true rfl

def zC : List Nat := [0, 0, 0, 0, 0, 0, 0, 0, 0, 0, 0, 0, 0, 0, 0, 0]
def g0C (k a : Nat) : GS := if a = 0 then ⟨0, 0, 0, zC⟩ else if a = 1 then ⟨0, 1, 0, zC⟩ else if a ≤ 2 * k + 3 then ⟨0, 2 + a % 2, k - (a - 2) / 2, zC⟩ else ⟨0, a - 2 * k, 0, zC⟩
def g1C (j b : Nat) : GS := if b = 0 then ⟨1, 0, 0, zC⟩ else if b ≤ 2 * j + 2 then ⟨1, 2 - b % 2, j - (b - 1) / 2, zC⟩ else ⟨1, b - 2 * j, 0, zC⟩
def cM (x y : GS) (s t : Nat) : MS := ⟨[x, y], [s, t], [], [[]], [], 0, List.replicate 32 [], 0⟩
/-- The first goroutine has done a instructions, the second one b. -/
def cS (k j a b : Nat) : MS := if a = 0 then m0 0 else cM (g0C k a) (g1C j b) (if a = 2 * k + 5 then 5 else 1) (if b = 2 * j + 4 then 5 else 1)

theorem opM_17 (m : MS) (g a b c : Nat) : opM m g 17 a b c = (if 0 < (x1 m g).count then m.put g { x1 m g with count := (x1 m g).count - 1, pc := a } else m.put g (x1 m g)) := rfl
theorem step_of {F : Fns} {m : MS} {g i0 i1 i2 i3 : Nat} (h : instAt F (m.at g) = ((i0 : Int), (i1 : Int), (i2 : Int), (i3 : Int))) :
    stepM F m g = opM m g i0 i1 i2 i3 ∧ tells F m g = ⟨g, (m.at g).f, (m.at g).pc, (i0 : Int), opV m g i0 i1 i2 i3, opBad m g i0 i1 i2 i3⟩ := by
  unfold stepM tells
  rw [h]
  exact ⟨rfl, rfl⟩
theorem inst_0 (k j pc c : Nat) (y : GS) (s t : Nat) : instAt (FC k j) ((cM ⟨0, pc, c, zC⟩ y s t).at 0) = (f0C k).getD pc (0, 0, 0, 0) := rfl
theorem inst_1 (k j pc c : Nat) (x : GS) (s t : Nat) : instAt (FC k j) ((cM x ⟨1, pc, c, zC⟩ s t).at 1) = (f1C j).getD pc (0, 0, 0, 0) := rfl

/-- The first goroutine's turn. -/
theorem turn_0 {k j a b : Nat} (ha : a < 2 * k + 5) (hb : a = 0 → b = 0) : stepM (FC k j) (cS k j a b) 0 = cS k j (a + 1) b ∧ (tells (FC k j) (cS k j a b) 0).op = (if a = 0 then 8 else if a = 1 then 16 else if a ≤ 2 * k + 3 then (if a % 2 = 0 then 4 else 17) else 0) := by
  have hk : 256 * (k / 256) + k % 256 = k := by omega
  by_cases h0 : a = 0
  · obtain rfl := hb h0
    subst h0
    have hS : cS k j 0 0 = m0 0 := if_pos rfl
    have hi : instAt (FC k j) ((m0 0).at 0) = (((8 : Nat) : Int), ((1 : Nat) : Int), ((0 : Nat) : Int), ((0 : Nat) : Int)) := rfl
    obtain ⟨s1, s2⟩ := step_of hi
    rw [hS, s1, s2]
    refine ⟨?_, rfl⟩
    have : cS k j (0 + 1) 0 = cM ⟨0, 1, 0, zC⟩ ⟨1, 0, 0, zC⟩ 1 1 := by
      unfold cS
      rw [if_neg (by omega), if_neg (by omega), if_neg (by omega)]
      rfl
    rw [this]
    rfl
  · have hS : cS k j a b = cM (g0C k a) (g1C j b) 1 (if b = 2 * j + 4 then 5 else 1) := by
      unfold cS
      rw [if_neg h0, if_neg (show ¬ a = 2 * k + 5 by omega)]
    have hT : cS k j (a + 1) b = cM (g0C k (a + 1)) (g1C j b) (if a + 1 = 2 * k + 5 then 5 else 1) (if b = 2 * j + 4 then 5 else 1) := by
      unfold cS
      rw [if_neg (show ¬ a + 1 = 0 by omega)]
    rw [hS, hT, if_neg h0]
    generalize (if b = 2 * j + 4 then 5 else 1) = t
    generalize g1C j b = y
    by_cases h1 : a = 1
    · subst h1
      have e1 : g0C k 1 = ⟨0, 1, 0, zC⟩ := rfl
      have e2 : g0C k (1 + 1) = ⟨0, 2, k, zC⟩ := by
        unfold g0C
        rw [if_neg (by omega), if_neg (by omega), if_pos (by omega)]
        rfl
      rw [e1, e2, if_neg (show ¬ 1 + 1 = 2 * k + 5 by omega), if_pos rfl]
      have hi : instAt (FC k j) ((cM ⟨0, 1, 0, zC⟩ y 1 t).at 0) = (((16 : Nat) : Int), ((k / 256 : Nat) : Int), ((k % 256 : Nat) : Int), ((0 : Nat) : Int)) := rfl
      obtain ⟨s1, s2⟩ := step_of hi
      rw [s1, s2]
      refine ⟨?_, rfl⟩
      show cM ⟨0, 2, 256 * (k / 256) + k % 256, zC⟩ y 1 t = _
      rw [hk]
    · rw [if_neg h1]
      by_cases h2 : a ≤ 2 * k + 3
      · rw [if_pos h2]
        have e1 : g0C k a = ⟨0, 2 + a % 2, k - (a - 2) / 2, zC⟩ := by
          unfold g0C
          rw [if_neg h0, if_neg h1, if_pos h2]
        rw [e1]
        by_cases hp : a % 2 = 0
        · rw [if_pos hp]
          have e2 : g0C k (a + 1) = ⟨0, 3, k - (a - 2) / 2, zC⟩ := by
            unfold g0C
            rw [if_neg (by omega), if_neg (by omega), if_pos (by omega), show (a + 1) % 2 = 1 by omega, show (a + 1 - 2) / 2 = (a - 2) / 2 by omega]
          rw [e2, hp, if_neg (show ¬ a + 1 = 2 * k + 5 by omega)]
          generalize k - (a - 2) / 2 = c
          have hi : instAt (FC k j) ((cM ⟨0, 2 + 0, c, zC⟩ y 1 t).at 0) = (((4 : Nat) : Int), ((1 : Nat) : Int), ((2 : Nat) : Int), ((0 : Nat) : Int)) := rfl
          obtain ⟨s1, s2⟩ := step_of hi
          rw [s1, s2]
          exact ⟨rfl, rfl⟩
        · rw [if_neg hp]
          have hi : ∀ c, instAt (FC k j) ((cM ⟨0, 2 + 1, c, zC⟩ y 1 t).at 0) = (((17 : Nat) : Int), ((2 : Nat) : Int), ((0 : Nat) : Int), ((0 : Nat) : Int)) := fun _ => rfl
          rw [show a % 2 = 1 by omega]
          by_cases h3 : a = 2 * k + 3
          · have e2 : g0C k (a + 1) = ⟨0, 4, 0, zC⟩ := by
              unfold g0C
              rw [if_neg (by omega), if_neg (by omega), if_neg (by omega), show a + 1 - 2 * k = 4 by omega]
            rw [e2, show k - (a - 2) / 2 = 0 by omega, if_neg (show ¬ a + 1 = 2 * k + 5 by omega)]
            obtain ⟨s1, s2⟩ := step_of (hi 0)
            rw [s1, s2]
            exact ⟨rfl, rfl⟩
          · obtain ⟨c, hc⟩ : ∃ c, k - (a - 2) / 2 = c + 1 := ⟨k - (a - 2) / 2 - 1, by omega⟩
            have e2 : g0C k (a + 1) = ⟨0, 2, c, zC⟩ := by
              unfold g0C
              rw [if_neg (by omega), if_neg (by omega), if_pos (by omega), show (a + 1) % 2 = 0 by omega, show k - (a + 1 - 2) / 2 = c by omega]
            rw [e2, hc, if_neg (show ¬ a + 1 = 2 * k + 5 by omega)]
            obtain ⟨s1, s2⟩ := step_of (hi (c + 1))
            rw [s1, s2, opM_17]
            exact ⟨(if_pos (Nat.succ_pos c)).trans rfl, rfl⟩
      · rw [if_neg h2]
        have h4 : a = 2 * k + 4 := by omega
        have e1 : g0C k a = ⟨0, 4, 0, zC⟩ := by
          unfold g0C
          rw [if_neg h0, if_neg h1, if_neg h2, show a - 2 * k = 4 by omega]
        have e2 : g0C k (a + 1) = ⟨0, 5, 0, zC⟩ := by
          unfold g0C
          rw [if_neg (by omega), if_neg (by omega), if_neg (by omega), show a + 1 - 2 * k = 5 by omega]
        rw [e1, e2, if_pos (show a + 1 = 2 * k + 5 by omega)]
        have hi : instAt (FC k j) ((cM ⟨0, 4, 0, zC⟩ y 1 t).at 0) = (((0 : Nat) : Int), ((0 : Nat) : Int), ((0 : Nat) : Int), ((0 : Nat) : Int)) := rfl
        obtain ⟨s1, s2⟩ := step_of hi
        rw [s1, s2]
        exact ⟨rfl, rfl⟩
/-- The second goroutine's turn. -/
theorem turn_1 {k j a b : Nat} (ha : 1 ≤ a) (hb : b < 2 * j + 4) : stepM (FC k j) (cS k j a b) 1 = cS k j a (b + 1) ∧ (tells (FC k j) (cS k j a b) 1).op = (if b = 0 then 16 else if b ≤ 2 * j + 2 then (if b % 2 = 0 then 17 else 4) else 0) := by
  have hk : 256 * (j / 256) + j % 256 = j := by omega
  have hS : cS k j a b = cM (g0C k a) (g1C j b) (if a = 2 * k + 5 then 5 else 1) 1 := by
    unfold cS
    rw [if_neg (show ¬ a = 0 by omega), if_neg (show ¬ b = 2 * j + 4 by omega)]
  have hT : cS k j a (b + 1) = cM (g0C k a) (g1C j (b + 1)) (if a = 2 * k + 5 then 5 else 1) (if b + 1 = 2 * j + 4 then 5 else 1) := by
    unfold cS
    rw [if_neg (show ¬ a = 0 by omega)]
  rw [hS, hT]
  generalize (if a = 2 * k + 5 then 5 else 1) = t
  generalize g0C k a = y
  by_cases h0 : b = 0
  · subst h0
    have e1 : g1C j 0 = ⟨1, 0, 0, zC⟩ := rfl
    have e2 : g1C j (0 + 1) = ⟨1, 1, j, zC⟩ := by
      unfold g1C
      rw [if_neg (by omega), if_pos (by omega)]
      rfl
    rw [e1, e2, if_neg (show ¬ 0 + 1 = 2 * j + 4 by omega), if_pos rfl]
    have hi : instAt (FC k j) ((cM y ⟨1, 0, 0, zC⟩ t 1).at 1) = (((16 : Nat) : Int), ((j / 256 : Nat) : Int), ((j % 256 : Nat) : Int), ((0 : Nat) : Int)) := rfl
    obtain ⟨s1, s2⟩ := step_of hi
    rw [s1, s2]
    refine ⟨?_, rfl⟩
    show cM y ⟨1, 1, 256 * (j / 256) + j % 256, zC⟩ t 1 = _
    rw [hk]
  · rw [if_neg h0]
    by_cases h2 : b ≤ 2 * j + 2
    · rw [if_pos h2]
      have e1 : g1C j b = ⟨1, 2 - b % 2, j - (b - 1) / 2, zC⟩ := by
        unfold g1C
        rw [if_neg h0, if_pos h2]
      rw [e1]
      by_cases hp : b % 2 = 0
      · rw [if_pos hp, hp]
        have hi : ∀ c, instAt (FC k j) ((cM y ⟨1, 2 - 0, c, zC⟩ t 1).at 1) = (((17 : Nat) : Int), ((1 : Nat) : Int), ((0 : Nat) : Int), ((0 : Nat) : Int)) := fun _ => rfl
        by_cases h3 : b = 2 * j + 2
        · have e2 : g1C j (b + 1) = ⟨1, 3, 0, zC⟩ := by
            unfold g1C
            rw [if_neg (by omega), if_neg (by omega), show b + 1 - 2 * j = 3 by omega]
          rw [e2, show j - (b - 1) / 2 = 0 by omega, if_neg (show ¬ b + 1 = 2 * j + 4 by omega)]
          obtain ⟨s1, s2⟩ := step_of (hi 0)
          rw [s1, s2]
          exact ⟨rfl, rfl⟩
        · obtain ⟨c, hc⟩ : ∃ c, j - (b - 1) / 2 = c + 1 := ⟨j - (b - 1) / 2 - 1, by omega⟩
          have e2 : g1C j (b + 1) = ⟨1, 1, c, zC⟩ := by
            unfold g1C
            rw [if_neg (by omega), if_pos (by omega), show (b + 1) % 2 = 1 by omega, show j - (b + 1 - 1) / 2 = c by omega]
          rw [e2, hc, if_neg (show ¬ b + 1 = 2 * j + 4 by omega)]
          obtain ⟨s1, s2⟩ := step_of (hi (c + 1))
          rw [s1, s2, opM_17]
          exact ⟨(if_pos (Nat.succ_pos c)).trans rfl, rfl⟩
      · rw [if_neg hp]
        have e2 : g1C j (b + 1) = ⟨1, 2, j - (b - 1) / 2, zC⟩ := by
          unfold g1C
          rw [if_neg (by omega), if_pos (by omega), show (b + 1) % 2 = 0 by omega, show (b + 1 - 1) / 2 = (b - 1) / 2 by omega]
        rw [e2, show b % 2 = 1 by omega, if_neg (show ¬ b + 1 = 2 * j + 4 by omega)]
        generalize j - (b - 1) / 2 = c
        have hi : instAt (FC k j) ((cM y ⟨1, 2 - 1, c, zC⟩ t 1).at 1) = (((4 : Nat) : Int), ((1 : Nat) : Int), ((2 : Nat) : Int), ((0 : Nat) : Int)) := rfl
        obtain ⟨s1, s2⟩ := step_of hi
        rw [s1, s2]
        exact ⟨rfl, rfl⟩
    · rw [if_neg h2]
      have e1 : g1C j b = ⟨1, 3, 0, zC⟩ := by
        unfold g1C
        rw [if_neg h0, if_neg h2, show b - 2 * j = 3 by omega]
      have e2 : g1C j (b + 1) = ⟨1, 4, 0, zC⟩ := by
        unfold g1C
        rw [if_neg (by omega), if_neg (by omega), show b + 1 - 2 * j = 4 by omega]
      rw [e1, e2, if_pos (show b + 1 = 2 * j + 4 by omega)]
      have hi : instAt (FC k j) ((cM y ⟨1, 3, 0, zC⟩ t 1).at 1) = (((0 : Nat) : Int), ((0 : Nat) : Int), ((0 : Nat) : Int), ((0 : Nat) : Int)) := rfl
      obtain ⟨s1, s2⟩ := step_of hi
      rw [s1, s2]
      exact ⟨rfl, rfl⟩
/-- So often it went round. -/
def moves0 (k a : Nat) : Nat := min ((a - 1) / 2) (k + 1)
def moves1 (j b : Nat) : Nat := min (b / 2) (j + 1)
theorem cS_facts (k j a b : Nat) (ha : a ≤ 2 * k + 5) : (cS k j a b).gs.length = (if a = 0 then 1 else 2) ∧ (cS k j a b).st.getD 0 0 = (if a = 2 * k + 5 then 5 else 1) ∧ (1 ≤ a → (cS k j a b).st.getD 1 0 = (if b = 2 * j + 4 then 5 else 1)) ∧ (cS k j a b).sleep = [] ∧ (cS k j a b).wait = List.replicate 32 [] := by
  unfold cS
  by_cases h : a = 0
  · rw [if_pos h, if_pos h, if_neg (show ¬ a = 2 * k + 5 by omega)]
    exact ⟨rfl, rfl, fun h1 => by omega, rfl, rfl⟩
  · rw [if_neg h, if_neg h]
    exact ⟨rfl, rfl, fun _ => rfl, rfl, rfl⟩

end Go.Proofs.Ytmlobpapjfkbmaa
