/- Doubles as ranks: their order is that of whole numbers. -/
import Derived.Test.YthhgpoihkmokcaaDoorFltOps
namespace Go.Proofs.YthhgpoihkmokcaaDoor
open Ieee
set_option linter.unusedVariables false

def rg (x : Nat) : Nat := x % 9223372036854775808
def sg (x : Nat) : Bool := x / 9223372036854775808 % 2 == 1
def nanB (x : Nat) : Bool := decide (9218868437227405312 < rg x)
/-- What a rung is worth. -/
def rv (r : Nat) : Nat := if r < 4503599627370496 then r else (4503599627370496 + r % 4503599627370496) * 2 ^ (r / 4503599627370496 - 1)
theorem rv_step (r : Nat) : rv r < rv (r + 1) := by
  unfold rv
  by_cases h1 : r + 1 < 4503599627370496
  · rw [if_pos (by omega), if_pos h1]; omega
  · rw [if_neg h1]
    by_cases h2 : r < 4503599627370496
    · rw [if_pos h2]
      have e : r + 1 = 4503599627370496 := by omega
      rw [e]; simp; omega
    · rw [if_neg h2]
      by_cases h3 : r % 4503599627370496 + 1 < 4503599627370496
      · have e1 : (r + 1) / 4503599627370496 = r / 4503599627370496 := by omega
        have e2 : (r + 1) % 4503599627370496 = r % 4503599627370496 + 1 := by omega
        rw [e1, e2]
        exact Nat.mul_lt_mul_of_pos_right (by omega) (Nat.two_pow_pos _)
      · have e1 : (r + 1) / 4503599627370496 - 1 = (r / 4503599627370496 - 1) + 1 := by omega
        have e2 : (r + 1) % 4503599627370496 = 0 := by omega
        rw [e1, e2, Nat.pow_succ, Nat.mul_comm _ 2, ← Nat.mul_assoc]
        exact Nat.mul_lt_mul_of_pos_right (by omega) (Nat.two_pow_pos _)
theorem rv_lt {a b : Nat} (h : a < b) : rv a < rv b := by
  induction b with
  | zero => omega
  | succ b ih =>
    by_cases e : a = b
    · subst e; exact rv_step a
    · exact Nat.lt_trans (ih (by omega)) (rv_step b)
theorem rv_zero : rv 0 = 0 := by decide
theorem rv_sgn (s t : Bool) (a b : Nat) : compare (sgn s (rv a)) (sgn t (rv b)) = compare (sgn s a) (sgn t b) := by
  have ha : (a = 0 ∧ rv a = 0) ∨ (0 < a ∧ 0 < rv a) := by
    by_cases h : a = 0
    · exact .inl ⟨h, by rw [h, rv_zero]⟩
    · have := rv_lt (show 0 < a by omega); rw [rv_zero] at this; exact .inr ⟨by omega, this⟩
  have hb : (b = 0 ∧ rv b = 0) ∨ (0 < b ∧ 0 < rv b) := by
    by_cases h : b = 0
    · exact .inl ⟨h, by rw [h, rv_zero]⟩
    · have := rv_lt (show 0 < b by omega); rw [rv_zero] at this; exact .inr ⟨by omega, this⟩
  have key : (sgn s (rv a) < sgn t (rv b) ∧ sgn s a < sgn t b) ∨ (sgn s (rv a) = sgn t (rv b) ∧ sgn s a = sgn t b) ∨ (sgn t (rv b) < sgn s (rv a) ∧ sgn t b < sgn s a) := by
    rcases Nat.lt_trichotomy a b with h | h | h
    · have := rv_lt h
      cases s <;> cases t <;> simp only [sgn, if_true, Bool.false_eq_true, if_false] <;> omega
    · subst h
      cases s <;> cases t <;> first | exact .inr (.inl ⟨rfl, rfl⟩) | (simp only [sgn, if_true, Bool.false_eq_true, if_false]; omega)
    · have := rv_lt h
      cases s <;> cases t <;> simp only [sgn, if_true, Bool.false_eq_true, if_false] <;> omega
  rcases key with ⟨h, k⟩ | ⟨h, k⟩ | ⟨h, k⟩
  · rw [Int.compare_eq_lt.2 h, Int.compare_eq_lt.2 k]
  · rw [Int.compare_eq_eq.2 h, Int.compare_eq_eq.2 k]
  · rw [Int.compare_eq_gt.2 h, Int.compare_eq_gt.2 k]

/-- What a word's order is: its rung with its sign; the zeros are one. -/
def kv (x : Nat) : Int := sgn (sg x) (rg x)

theorem read_num {x : Nat} (h : rg x < 9218868437227405312) : ∃ m i, double.read x = .number (sg x) m i ∧ -1074 ≤ i ∧ m < 9007199254740992 ∧ m * 2 ^ (i + 1074).toNat = rv (rg x) := by
  unfold Format.read
  simp only [db_sw, db_bin, db_inf, db_least]
  unfold rg at h
  show ∃ m i, (if x % 9223372036854775808 < 4503599627370496 then Datum.number (sg x) (x % 9223372036854775808) (-1074) else _) = _ ∧ _
  by_cases h1 : x % 9223372036854775808 < 4503599627370496
  · rw [if_pos h1]
    refine ⟨_, _, rfl, by omega, by omega, ?_⟩
    unfold rg rv
    rw [if_pos h1]
    simp
  · rw [if_neg h1, if_pos h]
    refine ⟨_, _, rfl, by omega, by omega, ?_⟩
    unfold rg rv
    rw [if_neg h1]
    congr 2
    omega
theorem read_inf {x : Nat} (h : rg x = 9218868437227405312) : double.read x = .infinity (sg x) := by
  unfold Format.read
  simp only [db_sw, db_bin, db_inf, db_least]
  unfold rg at h
  rw [if_neg (by omega), if_neg (by omega), if_pos h]
  rfl
theorem read_nan {x : Nat} (h : nanB x = true) : ∃ s f, double.read x = .nan s f := by
  have h := of_decide_eq_true h
  unfold Format.read
  simp only [db_sw, db_bin, db_inf, db_least]
  unfold rg at h
  rw [if_neg (by omega), if_neg (by omega), if_neg (by omega)]
  exact ⟨_, _, rfl⟩
theorem rg_cases {x : Nat} (h : nanB x = false) : rg x < 9218868437227405312 ∨ rg x = 9218868437227405312 := by
  have := of_decide_eq_false h; omega

theorem ord_nanl {x y : Nat} (h : nanB x = true) : FloatKind.f64.format.order x y = none := by
  obtain ⟨s, f, h⟩ := read_nan h
  show double.order x y = none
  unfold Format.order; rw [h]; rfl
theorem ord_nanr {x y : Nat} (h : nanB y = true) : FloatKind.f64.format.order x y = none := by
  obtain ⟨s, f, h⟩ := read_nan h
  show double.order x y = none
  unfold Format.order; rw [h]
  cases double.read x <;> rfl
theorem ord_kv {x y : Nat} (hx : nanB x = false) (hy : nanB y = false) : FloatKind.f64.format.order x y = some (compare (kv x) (kv y)) := by
  rcases rg_cases hx with h1 | h1 <;> rcases rg_cases hy with h2 | h2
  · obtain ⟨m, i, e1, e2, e3, e4⟩ := read_num h1
    obtain ⟨n, j, f1, f2, f3, f4⟩ := read_num h2
    refine (order_val (A := sgn (sg x) m * 2 ^ (i + 1074).toNat) (B := sgn (sg y) n * 2 ^ (j + 1074).toNat) ⟨_, _, _, e1, e2, e3, rfl⟩ ⟨_, _, _, f1, f2, f3, rfl⟩).trans ?_
    congr 1
    have g : ∀ (s : Bool) (m u : Nat), sgn s m * 2 ^ u = sgn s (m * 2 ^ u) := by
      intro s m u
      cases s <;> simp [sgn, Int.neg_mul]
    rw [g, g, e4, f4]
    exact rv_sgn _ _ _ _
  · obtain ⟨m, i, e1, e2, e3, e4⟩ := read_num h1
    have f1 := read_inf h2
    show double.order x y = _
    unfold Format.order kv
    rw [e1, f1]
    show some (if sg y then Ordering.gt else .lt) = _
    congr 1
    cases sg y
    · refine (Int.compare_eq_lt.2 ?_).symm
      rw [h2]; cases sg x <;> simp [sgn] <;> omega
    · refine (Int.compare_eq_gt.2 ?_).symm
      rw [h2]; cases sg x <;> simp [sgn] <;> omega
  · obtain ⟨m, i, e1, e2, e3, e4⟩ := read_num h2
    have f1 := read_inf h1
    show double.order x y = _
    unfold Format.order kv
    rw [e1, f1]
    show some (if sg x then Ordering.lt else .gt) = _
    congr 1
    cases sg x
    · refine (Int.compare_eq_gt.2 ?_).symm
      rw [h1]; cases sg y <;> simp [sgn] <;> omega
    · refine (Int.compare_eq_lt.2 ?_).symm
      rw [h1]; cases sg y <;> simp [sgn] <;> omega
  · have f1 := read_inf h1
    have f2 := read_inf h2
    show double.order x y = _
    unfold Format.order kv
    rw [f1, f2, h1, h2]
    cases sg x <;> cases sg y <;> decide

theorem ord_self {x : Nat} (h : nanB x = false) : FloatKind.f64.format.order x x = some .eq := by
  rw [ord_kv h h, Int.compare_eq_eq.2 rfl]
theorem ord_lt {x y : Nat} (hx : nanB x = false) (hy : nanB y = false) (h : kv x < kv y) : FloatKind.f64.format.order x y = some .lt := by
  rw [ord_kv hx hy, Int.compare_eq_lt.2 h]
theorem ord_eq {x y : Nat} (hx : nanB x = false) (hy : nanB y = false) (h : kv x = kv y) : FloatKind.f64.format.order x y = some .eq := by
  rw [ord_kv hx hy, Int.compare_eq_eq.2 h]
theorem ord_gt {x y : Nat} (hx : nanB x = false) (hy : nanB y = false) (h : kv y < kv x) : FloatKind.f64.format.order x y = some .gt := by
  rw [ord_kv hx hy, Int.compare_eq_gt.2 h]

/-- A word's rank: NaN is the least, -0 less than 0. -/
def key (x : Nat) : Int := if nanB x then -9223372036854775900 else if sg x then -(rg x : Int) - 1 else rg x
theorem rg_lt (x : Nat) : rg x < 9223372036854775808 := Nat.mod_lt _ (by omega)

theorem key_nan {x : Nat} (h : nanB x = true) : key x = -9223372036854775900 := by unfold key; rw [if_pos h]
theorem key_num {x : Nat} (h : nanB x = false) : -9223372036854775900 < key x := by
  have := rg_lt x
  unfold key; rw [if_neg (by simp [h])]
  cases sg x <;> simp <;> omega
theorem key_is {x : Nat} (h : nanB x = false) : key x = if sg x = true then -(rg x : Int) - 1 else rg x := by unfold key; rw [h]; rfl
theorem key_lt {x y : Nat} (hx : nanB x = false) (hy : nanB y = false) (h : kv x < kv y) : key x < key y := by
  rw [key_is hx, key_is hy]
  unfold kv at h
  revert h
  cases sg x <;> cases sg y <;> simp [sgn] <;> omega
theorem key_eq {x y : Nat} (hx : nanB x = false) (hy : nanB y = false) (h : kv x = kv y) (k : sg x = sg y) : key x = key y := by
  rw [key_is hx, key_is hy]
  unfold kv at h
  rw [k] at h ⊢
  revert h
  cases sg y <;> simp [sgn] <;> omega
theorem key_zero {x y : Nat} (hx : nanB x = false) (hy : nanB y = false) (h : kv x = kv y) (k1 : sg x = true) (k2 : sg y = false) : key x < key y := by
  rw [key_is hx, key_is hy]
  unfold kv at h
  rw [k1, k2] at h ⊢
  revert h
  simp [sgn]; omega
theorem kv_sg {x y : Nat} (h : kv x = kv y) (h0 : kv x ≠ 0) : sg x = sg y := by
  unfold kv at *
  revert h h0
  cases sg x <;> cases sg y <;> simp [sgn] <;> omega
end Go.Proofs.YthhgpoihkmokcaaDoor
