/- ModelSleeps: plain. -/
import Derived.Test.YtmlobpapjfkbmaaPCountsP16
namespace Go.Proofs.Ytmlobpapjfkbmaa
open Go.RowKit
set_option linter.unusedVariables false
set_option maxRecDepth 20000
set_option linter.unusedSimpArgs false

theorem and_maskZ (x : Int) (k : Nat) (hk : k ≤ 62) : bits .and .i64 x ((2 ^ k - 1 : Nat) : Int) = x % ((2 ^ k : Nat) : Int) := by
  have hp : 2 ^ k ∣ (18446744073709551616 : Nat) := ⟨2 ^ (64 - k), by rw [← Nat.pow_add, show k + (64 - k) = 64 by omega]⟩
  have hle : 2 ^ k ≤ 2 ^ 62 := Nat.pow_le_pow_right (by omega) hk
  have hpos : 0 < 2 ^ k := Nat.two_pow_pos k
  have e1 : (BitVec.ofInt 64 ((2 ^ k - 1 : Nat) : Int)).toNat = 2 ^ k - 1 := by
    rw [BitVec.ofInt_natCast, BitVec.toNat_ofNat]; exact Nat.mod_eq_of_lt (by omega)
  have e2 : (BitVec.ofInt 64 x).toNat = (x % 18446744073709551616).toNat := by
    rw [BitVec.toNat_ofInt]; rfl
  have e4 : (BitVec.ofInt 64 x &&& BitVec.ofInt 64 ((2 ^ k - 1 : Nat) : Int)).toNat = (x % 18446744073709551616).toNat % 2 ^ k := by
    rw [BitVec.toNat_and, e1, e2, Nat.and_two_pow_sub_one_eq_mod]
  show IntKind.i64.wrap ((BitVec.ofInt 64 x &&& BitVec.ofInt 64 ((2 ^ k - 1 : Nat) : Int)).toNat : Int) = _
  rw [e4]
  have e3 : (((x % 18446744073709551616).toNat % 2 ^ k : Nat) : Int) = x % ((2 ^ k : Nat) : Int) := by
    rw [Int.natCast_emod, Int.toNat_of_nonneg (by omega)]
    exact Int.emod_emod_of_dvd x (Int.natCast_dvd_natCast.2 hp)
  have h1 : 0 ≤ x % ((2 ^ k : Nat) : Int) := Int.emod_nonneg _ (by omega)
  have h2 : x % ((2 ^ k : Nat) : Int) < ((2 ^ k : Nat) : Int) := Int.emod_lt_of_pos _ (by omega)
  rw [e3, IntKind.wrap_i64]
  omega
theorem and255Z (x : Nat) : bits .and .i64 (x : Int) 255 = ((x % 256 : Nat) : Int) := by
  have := and_maskZ (x : Int) 8 (by omega)
  rw [show ((2 ^ 8 - 1 : Nat) : Int) = 255 from rfl, show ((2 ^ 8 : Nat) : Int) = 256 from rfl] at this
  rw [this]; omega

def FZ (x1 y1 x2 y2 x3 y3 : Nat) : Fns := [[(8, 1, 0, 0), (8, 2, 0, 0), (10, 0, (x1 : Int), (y1 : Int))], [(10, 0, (x2 : Int), (y2 : Int))], [(10, 0, (x3 : Int), (y3 : Int))]]
theorem bad_Z : ∀ x, x < 2 → ∀ y, y < 256 → C15.wrongI 0 3 3 (10, 0, ((x : Nat) : Int), ((y : Nat) : Int)) < 0 ∧ C15.wrongI 0 3 1 (10, 0, ((x : Nat) : Int), ((y : Nat) : Int)) < 0 := by decide +kernel
theorem may_Z {x1 y1 x2 y2 x3 y3 : Nat} (h1 : x1 < 2) (k1 : y1 < 256) (h2 : x2 < 2) (k2 : y2 < 256) (h3 : x3 < 2) (k3 : y3 < 256) : C15.mayI ((0 : Nat) : Int) (FZ x1 y1 x2 y2 x3 y3) = 0 := by
  have e1 : ¬ 0 ≤ C15.wrongI 0 3 3 (8, 1, 0, 0) := by decide
  have e2 : ¬ 0 ≤ C15.wrongI 0 3 3 (8, 2, 0, 0) := by decide
  have e3 : ¬ 0 ≤ C15.wrongI 0 3 3 (10, 0, ((x1 : Nat) : Int), ((y1 : Nat) : Int)) := by have := (bad_Z x1 h1 y1 k1).1; omega
  have e4 : ¬ 0 ≤ C15.wrongI 0 3 1 (10, 0, ((x2 : Nat) : Int), ((y2 : Nat) : Int)) := by have := (bad_Z x2 h2 y2 k2).2; omega
  have e5 : ¬ 0 ≤ C15.wrongI 0 3 1 (10, 0, ((x3 : Nat) : Int), ((y3 : Nat) : Int)) := by have := (bad_Z x3 h3 y3 k3).2; omega
  have e : C15.badF 0 3 1 (FZ x1 y1 x2 y2 x3 y3) = .ok 6 := by
    unfold FZ
    simp [C15.badF, C15.badL, e1, e2, e3, e4, e5]
  unfold C15.mayI
  rw [if_neg (by unfold FZ; simp), if_neg (by unfold FZ; simp [C15.lenOk])]
  show C15.outM (C15.badF 0 3 1 (FZ x1 y1 x2 y2 x3 y3)) = 0
  rw [e]; rfl

/-- A sleeper. -/
def z3 (t g : Nat) : T13.T3 := (((0 + (t + 1) : Nat) : Int), (g : Int), ((g : Nat) : Int) + 1)
def S3 (a b c : Nat) : List T13.T3 := T13.insT (z3 c 2) (T13.insT (z3 b 1) (T13.insT (z3 a 0) []))
def TZ (a b c g : Nat) : Nat := if g = 0 then a else if g = 1 then b else c
theorem S3_mem {a b c : Nat} (p : T13.T3) : p ∈ S3 a b c ↔ ∃ g, g ≤ 2 ∧ p = z3 (TZ a b c g) g := by
  unfold S3
  rw [(T13.insT_perm _ _).mem_iff, List.mem_append, (T13.insT_perm _ _).mem_iff, List.mem_append, (T13.insT_perm _ _).mem_iff]
  simp only [List.mem_append, List.mem_singleton, List.not_mem_nil, false_or]
  constructor
  · rintro ((rfl | rfl) | rfl)
    · exact ⟨0, by omega, rfl⟩
    · exact ⟨1, by omega, rfl⟩
    · exact ⟨2, by omega, rfl⟩
  · rintro ⟨g, hg, rfl⟩
    rcases (by omega : g = 0 ∨ g = 1 ∨ g = 2) with rfl | rfl | rfl
    · exact .inl (.inl rfl)
    · exact .inl (.inr rfl)
    · exact .inr rfl
theorem S3_sorted (a b c : Nat) : (S3 a b c).Pairwise (fun p q => ¬ T13.lt3 q p) := by
  unfold S3
  have h1 : (T13.insT (z3 a 0) []).Pairwise (fun p q => ¬ T13.lt3 q p) := T13.insT_sorted _ _ List.Pairwise.nil (fun q hq => by cases hq)
  have m1 : ∀ q ∈ T13.insT (z3 a 0) [], q.2.2 < (z3 b 1).2.2 := fun q hq => by
    rw [(T13.insT_perm _ _).mem_iff] at hq
    simp only [List.nil_append, List.mem_singleton] at hq
    subst hq; show ((0 : Nat) : Int) + 1 < ((1 : Nat) : Int) + 1; omega
  have h2 := T13.insT_sorted _ _ h1 m1
  refine T13.insT_sorted _ _ h2 (fun q hq => ?_)
  rw [(T13.insT_perm _ _).mem_iff, List.mem_append, (T13.insT_perm _ _).mem_iff] at hq
  simp only [List.nil_append, List.mem_singleton] at hq
  rcases hq with rfl | rfl
  · show ((0 : Nat) : Int) + 1 < ((2 : Nat) : Int) + 1; omega
  · show ((1 : Nat) : Int) + 1 < ((2 : Nat) : Int) + 1; omega

def gsZ : List GS := [⟨0, 3, 0, zC⟩, ⟨1, 1, 0, zC⟩, ⟨2, 1, 0, zC⟩]
def sZ (a b c i : Nat) : MS :=
  match i with
  | 0 => ⟨[⟨0, 0, 0, zC⟩], [1], [], [[]], [], 0, List.replicate 32 [], 0⟩
  | 1 => ⟨[⟨0, 1, 0, zC⟩, ⟨1, 0, 0, zC⟩], [1, 1], [], [[]], [], 0, List.replicate 32 [], 0⟩
  | 2 => ⟨[⟨0, 2, 0, zC⟩, ⟨1, 0, 0, zC⟩, ⟨2, 0, 0, zC⟩], [1, 1, 1], [], [[]], [], 0, List.replicate 32 [], 0⟩
  | 3 => ⟨[⟨0, 3, 0, zC⟩, ⟨1, 0, 0, zC⟩, ⟨2, 0, 0, zC⟩], [3, 1, 1], [], [[]], T13.insT (z3 a 0) [], 1, List.replicate 32 [], 0⟩
  | 4 => ⟨[⟨0, 3, 0, zC⟩, ⟨1, 1, 0, zC⟩, ⟨2, 0, 0, zC⟩], [3, 3, 1], [], [[]], T13.insT (z3 b 1) (T13.insT (z3 a 0) []), 2, List.replicate 32 [], 0⟩
  | _ => ⟨gsZ, [3, 3, 3], [], [[]], S3 a b c, 3, List.replicate 32 [], 0⟩
theorem sZ_0 (a b c : Nat) : m0 0 = sZ a b c 0 := rfl
theorem sZ_go {x1 y1 x2 y2 x3 y3 a b c : Nat} (h1 : 256 * x1 + y1 = a) (h2 : 256 * x2 + y2 = b) (h3 : 256 * x3 + y3 = c) {i : Nat} (hi : i < 5) :
    i - 2 < (sZ a b c i).gs.length ∧ (sZ a b c i).st.getD (i - 2) 0 = 1 ∧ stepM (FZ x1 y1 x2 y2 x3 y3) (sZ a b c i) (i - 2) = sZ a b c (i + 1) := by
  subst h1 h2 h3
  rcases (by omega : i = 0 ∨ i = 1 ∨ i = 2 ∨ i = 3 ∨ i = 4) with rfl | rfl | rfl | rfl | rfl
  · exact ⟨by show 0 < 1; omega, rfl, (step_of (i0 := 8) (i1 := 1) (i2 := 0) (i3 := 0) rfl).1.trans rfl⟩
  · exact ⟨by show 0 < 2; omega, rfl, (step_of (i0 := 8) (i1 := 2) (i2 := 0) (i3 := 0) rfl).1.trans rfl⟩
  · exact ⟨by show 0 < 3; omega, rfl, (step_of (i0 := 10) (i1 := 0) (i2 := x1) (i3 := y1) rfl).1.trans rfl⟩
  · exact ⟨by show 1 < 3; omega, rfl, (step_of (i0 := 10) (i1 := 0) (i2 := x2) (i3 := y2) rfl).1.trans rfl⟩
  · exact ⟨by show 2 < 3; omega, rfl, (step_of (i0 := 10) (i1 := 0) (i2 := x3) (i3 := y3) rfl).1.trans rfl⟩

def stZ (a b c q : Nat) : List Nat := [if a + 1 ≤ q then 1 else 3, if b + 1 ≤ q then 1 else 3, if c + 1 ≤ q then 1 else 3]
def tZ (a b c q : Nat) : MS := ⟨gsZ, stZ a b c q, [], [[]], T13.leftS ((q : Nat) : Int) (S3 a b c), 3, List.replicate 32 [], q⟩
theorem tZ_0 (a b c : Nat) : sZ a b c 5 = tZ a b c 0 := by
  have e : T13.leftS ((0 : Nat) : Int) (S3 a b c) = S3 a b c := by
    unfold T13.leftS
    rw [List.filter_eq_self]
    intro p hp
    obtain ⟨g, -, rfl⟩ := (S3_mem p).1 hp
    unfold z3
    simp
  unfold tZ stZ
  rw [e, if_neg (by omega), if_neg (by omega), if_neg (by omega)]
  rfl
theorem stZ_at (a b c q : Nat) {g : Nat} (hg : g ≤ 2) : (stZ a b c q).getD g 0 = if TZ a b c g + 1 ≤ q then 1 else 3 := by
  rcases (by omega : g = 0 ∨ g = 1 ∨ g = 2) with rfl | rfl | rfl <;> rfl
theorem dueZ_left (a b c q s : Nat) : T13.dueS ((q + s : Nat) : Int) (T13.leftS ((q : Nat) : Int) (S3 a b c)) = (S3 a b c).filter (fun p => decide (p.1 ≤ ((q + s : Nat) : Int)) && decide (((q : Nat) : Int) < p.1)) := by
  unfold T13.dueS T13.leftS
  rw [List.filter_filter]
theorem left_left (a b c q s : Nat) : T13.leftS ((q + s : Nat) : Int) (T13.leftS ((q : Nat) : Int) (S3 a b c)) = T13.leftS ((q + s : Nat) : Int) (S3 a b c) := by
  unfold T13.leftS
  rw [List.filter_filter]
  apply List.filter_congr
  intro p hp
  by_cases h : ((q + s : Nat) : Int) < p.1
  · have : ((q : Nat) : Int) < p.1 := by omega
    simp only [h, this, decide_true, Bool.and_self]
  · simp only [h, decide_false, Bool.false_and]
theorem woke_mem {a b c q s g : Nat} : g ∈ wokeM (tZ a b c q) s ↔ g ≤ 2 ∧ q < TZ a b c g + 1 ∧ TZ a b c g + 1 ≤ q + s := by
  unfold wokeM
  show g ∈ (T13.dueS ((q + s : Nat) : Int) (T13.leftS ((q : Nat) : Int) (S3 a b c))).map _ ↔ _
  rw [dueZ_left, List.mem_map]
  constructor
  · rintro ⟨p, hp, e⟩
    obtain ⟨h1, h2⟩ := List.mem_filter.1 hp
    obtain ⟨k, hk, rfl⟩ := (S3_mem p).1 h1
    have ek : k = g := by rw [← e]; simp [z3]
    subst ek
    have h2 : (decide ((z3 (TZ a b c k) k).1 ≤ ((q + s : Nat) : Int)) && decide (((q : Nat) : Int) < (z3 (TZ a b c k) k).1)) = true := h2
    rw [Bool.and_eq_true, decide_eq_true_eq, decide_eq_true_eq] at h2
    have e1 : (z3 (TZ a b c k) k).1 = ((0 + (TZ a b c k + 1) : Nat) : Int) := rfl
    rw [e1] at h2
    omega
  · rintro ⟨h1, h2, h3⟩
    refine ⟨z3 (TZ a b c g) g, List.mem_filter.2 ⟨(S3_mem _).2 ⟨g, h1, rfl⟩, ?_⟩, by simp [z3]⟩
    show (decide ((z3 (TZ a b c g) g).1 ≤ ((q + s : Nat) : Int)) && decide (((q : Nat) : Int) < (z3 (TZ a b c g) g).1)) = true
    rw [Bool.and_eq_true, decide_eq_true_eq, decide_eq_true_eq]
    have e1 : (z3 (TZ a b c g) g).1 = ((0 + (TZ a b c g + 1) : Nat) : Int) := rfl
    rw [e1]
    omega
theorem woke_ord {a b c q s i : Nat} (h0 : 0 < i) (hi : i < (wokeM (tZ a b c q) s).length) :
    ¬ (TZ a b c ((wokeM (tZ a b c q) s).getD i 0) < TZ a b c ((wokeM (tZ a b c q) s).getD (i - 1) 0)) ∧ ¬ (TZ a b c ((wokeM (tZ a b c q) s).getD (i - 1) 0) = TZ a b c ((wokeM (tZ a b c q) s).getD i 0) ∧ (wokeM (tZ a b c q) s).getD i 0 < (wokeM (tZ a b c q) s).getD (i - 1) 0) := by
  have e : wokeM (tZ a b c q) s = ((S3 a b c).filter (fun p => decide (p.1 ≤ ((q + s : Nat) : Int)) && decide (((q : Nat) : Int) < p.1))).map (fun p => p.2.1.toNat) := by
    unfold wokeM
    show (T13.dueS ((q + s : Nat) : Int) (T13.leftS ((q : Nat) : Int) (S3 a b c))).map _ = _
    rw [dueZ_left]
  have hs : ((S3 a b c).filter (fun p => decide (p.1 ≤ ((q + s : Nat) : Int)) && decide (((q : Nat) : Int) < p.1))).Pairwise (fun p q => ¬ T13.lt3 q p) := (S3_sorted a b c).sublist List.filter_sublist
  have hm : ∀ p ∈ (S3 a b c).filter (fun p => decide (p.1 ≤ ((q + s : Nat) : Int)) && decide (((q : Nat) : Int) < p.1)), ∃ g, g ≤ 2 ∧ p = z3 (TZ a b c g) g := fun p hp => (S3_mem p).1 (List.mem_filter.1 hp).1
  rw [e] at hi ⊢
  generalize (S3 a b c).filter (fun p => decide (p.1 ≤ ((q + s : Nat) : Int)) && decide (((q : Nat) : Int) < p.1)) = D at hs hm hi ⊢
  rw [List.length_map] at hi
  have hj : i - 1 < D.length := by omega
  have g1 : (D.map (fun p => p.2.1.toNat)).getD i 0 = (D[i]).2.1.toNat := by rw [List.getD_eq_getElem?_getD, List.getElem?_map, List.getElem?_eq_getElem hi]; rfl
  have g2 : (D.map (fun p => p.2.1.toNat)).getD (i - 1) 0 = (D[i - 1]).2.1.toNat := by rw [List.getD_eq_getElem?_getD, List.getElem?_map, List.getElem?_eq_getElem hj]; rfl
  rw [g1, g2]
  have hp := List.pairwise_iff_getElem.1 hs (i - 1) i hj hi (by omega)
  obtain ⟨x, -, ex⟩ := hm _ (List.getElem_mem hi)
  obtain ⟨y, -, ey⟩ := hm _ (List.getElem_mem hj)
  rw [ex, ey] at hp ⊢
  have ez : ∀ t k : Nat, ((z3 t k).2.1).toNat = k := fun t k => by simp [z3]
  rw [ez, ez]
  unfold T13.lt3 z3 at hp
  dsimp only at hp
  omega
theorem tick_Z {a b c q s : Nat} (h : SInv (tZ a b c q).st (tZ a b c q).sleep (tZ a b c q).wait) : tickM (tZ a b c q) s = tZ a b c (q + s) := by
  obtain ⟨-, s2, s3, -⟩ := h.tick ((q + s : Nat) : Int)
  have e2 : (wakeL (stZ a b c q) (wokeM (tZ a b c q) s)).length = 3 := s2
  have e3 : ∀ i, (wakeL (stZ a b c q) (wokeM (tZ a b c q) s)).getD i 0 = if i ∈ wokeM (tZ a b c q) s then 1 else (stZ a b c q).getD i 0 := s3
  have est : wakeL (stZ a b c q) (wokeM (tZ a b c q) s) = stZ a b c (q + s) := by
    apply List.ext_getElem (by rw [e2]; rfl)
    intro i h1 h2
    have hi : i ≤ 2 := by rw [e2] at h1; omega
    have k1 := e3 i
    rw [List.getD_eq_getElem?_getD, List.getElem?_eq_getElem h1] at k1
    have k2 := stZ_at a b c (q + s) hi
    rw [List.getD_eq_getElem?_getD, List.getElem?_eq_getElem h2] at k2
    simp only [Option.getD_some] at k1 k2
    rw [k1, k2, stZ_at a b c q hi]
    by_cases hm : i ∈ wokeM (tZ a b c q) s
    · rw [if_pos hm, if_pos (woke_mem.1 hm).2.2]
    · rw [if_neg hm]
      have := fun h => hm (woke_mem.2 h)
      by_cases h1 : TZ a b c i + 1 ≤ q
      · rw [if_pos h1, if_pos (by omega)]
      · rw [if_neg h1, if_neg (fun h2 => this ⟨hi, by omega, h2⟩)]
  unfold tickM
  show (⟨gsZ, wakeL (stZ a b c q) (wokeM (tZ a b c q) s), [], [[]], T13.leftS ((q + s : Nat) : Int) (T13.leftS ((q : Nat) : Int) (S3 a b c)), 3, List.replicate 32 [], q + s⟩ : MS) = _
  rw [est, left_left]
  rfl

end Go.Proofs.Ytmlobpapjfkbmaa
