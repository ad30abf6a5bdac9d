/- math.Abs, IsInf, Floor. -/
import Derived.Test.YthhgpoihkmokcaaDoorArith31
namespace Go.Proofs.YthhgpoihkmokcaaDoor
open Go.RowKit Ieee
set_option linter.unusedVariables false

/-- The greatest whole number that is not above a float, as a float: of what is no NaN. -/
def floorBits (x : Nat) : Option Nat :=
  match FloatKind.f64.decode x with
  | .nan _ _ => none
  | d => some (FloatKind.f64.encode (d.integral .down))
theorem arch_inf (x : Nat) (s : Bool) (hd : FloatKind.f64.decode x = Ieee.Datum.infinity s) :
    Extern.MathFloor.toIntegral "math.archFloor" .down #[.float .f64 x] = pure (.float .f64 (FloatKind.f64.encode ((Ieee.Datum.infinity s).integral .down))) := by
  conv => lhs; whnf
  rw [hd]
theorem arch_num (x : Nat) (s : Bool) (m : Nat) (i : Int) (hd : FloatKind.f64.decode x = Ieee.Datum.number s m i) :
    Extern.MathFloor.toIntegral "math.archFloor" .down #[.float .f64 x] = pure (.float .f64 (FloatKind.f64.encode ((Ieee.Datum.number s m i).integral .down))) := by
  conv => lhs; whnf
  rw [hd]
theorem arch_run (x r : Nat) (h : floorBits x = some r) (w : World) : (callFunc 39 #[.float .f64 x]).run Tryd.prog w = .ok (.value (.float .f64 r)) w := by
  rw [run_callFunc_extern Tryd.func39 (by kernel_rfl) (by kernel_rfl) (by kernel_rfl) (e := Extern.MathFloor.toIntegral "math.archFloor" .down) (by kernel_rfl)]
  unfold floorBits at h
  cases hd : FloatKind.f64.decode x with
  | nan s t => rw [hd] at h; cases h
  | infinity s =>
    rw [hd] at h
    simp only [Option.some.injEq] at h
    subst h
    rw [arch_inf x s hd]
    rfl
  | number s m i =>
    rw [hd] at h
    simp only [Option.some.injEq] at h
    subst h
    rw [arch_num x s m i hd]
    rfl
theorem floor_any (x r : Nat) (h : floorBits x = some r) (w : World) :
    Calls Tryd.prog 33 #[.float .f64 x] w fun e w' => e = .returned (.float .f64 r) ∧ w = w' := by
  have ha := arch_run x r h
  go_enter Tryd.func33, Tryd.ntmps33
  go_wp2
  go_ret
  exact ⟨rfl, rfl⟩

/-- The other sign. -/
def ng (x : Nat) : Nat := Op.negFloat .f64 x
theorem ng_rg (x : Nat) : rg (ng x) = rg x := by
  unfold rg ng Op.negFloat
  show (x ^^^ 2 ^ 63) % 2 ^ 63 = x % 2 ^ 63
  rw [Nat.xor_mod_two_pow]
  simp
theorem ng_sg (x : Nat) : sg (ng x) = !sg x := by
  unfold sg ng Op.negFloat
  show ((x ^^^ 2 ^ 63) / 2 ^ 63 % 2 ^ 1 == 1) = !(x / 2 ^ 63 % 2 ^ 1 == 1)
  rw [Nat.xor_div_two_pow, Nat.xor_mod_two_pow]
  have h : x / 2 ^ 63 % 2 ^ 1 = 0 ∨ x / 2 ^ 63 % 2 ^ 1 = 1 := by omega
  rcases h with h | h <;> rw [h] <;> decide
theorem ng_nan (x : Nat) : nanB (ng x) = nanB x := by unfold nanB; rw [ng_rg]
theorem ng_kv (x : Nat) : kv (ng x) = -kv x := by
  unfold kv
  rw [ng_rg, ng_sg]
  cases sg x <;> simp [sgn]
theorem neg_run (w : World) (x : Nat) : (Op.unary .neg (.float .f64 x)).run Tryd.prog w = .ok (.float .f64 (ng x)) w := by kernel_rfl

theorem max_nan : nanB 9218868437227405311 = false := by decide
theorem max_kv : kv 9218868437227405311 = 9218868437227405311 := by decide
theorem isinf_pos (w : World) (x : Nat) (hx : nanB x = false) (z : Bool) (hz : decide (kv x = 9218868437227405312) = z) :
    Calls Tryd.prog 30 #[.float .f64 x, .int .i64 1] w fun e w' => e = .returned (.bool z) ∧ w = w' := by
  rcases Int.lt_trichotomy (kv x) 9218868437227405311 with h | h | h
  · have o := ord_lt hx max_nan (by rw [max_kv]; exact h)
    have e : z = false := by rw [← hz]; simp; omega
    subst e
    clear hz h
    go_enter Tryd.func30, Tryd.ntmps30
    go_wp2
    go_ret
    exact ⟨rfl, rfl⟩
  · have o := ord_eq hx max_nan (by rw [max_kv]; exact h)
    have e : z = false := by rw [← hz]; simp; omega
    subst e
    clear hz h
    go_enter Tryd.func30, Tryd.ntmps30
    go_wp2
    go_ret
    exact ⟨rfl, rfl⟩
  · have o := ord_gt hx max_nan (by rw [max_kv]; exact h)
    have e : z = true := by
      rw [← hz]
      have h1 := rg_cases hx
      revert h
      unfold kv
      cases sg x <;> simp [sgn] <;> omega
    subst e
    clear hz h
    go_enter Tryd.func30, Tryd.ntmps30
    go_wp2
    go_ret
    exact ⟨rfl, rfl⟩
theorem isinf_neg (w : World) (x : Nat) (hx : nanB x = false) (z : Bool) (hz : decide (kv x = -9218868437227405312) = z) :
    Calls Tryd.prog 30 #[.float .f64 x, .int .i64 (-1)] w fun e w' => e = .returned (.bool z) ∧ w = w' := by
  have hn := fun w => neg_run w x
  have hx' : nanB (ng x) = false := by rw [ng_nan, hx]
  have hz' : decide (kv (ng x) = 9218868437227405312) = z := by rw [ng_kv, ← hz]; congr 1; apply propext; constructor <;> intro h <;> omega
  obtain ⟨y, hy⟩ : ∃ y, ng x = y := ⟨_, rfl⟩
  rw [hy] at hn hx' hz'
  clear hz hx hy
  rcases Int.lt_trichotomy (kv y) 9218868437227405311 with h | h | h
  · have o := ord_lt hx' max_nan (by rw [max_kv]; exact h)
    have e : z = false := by rw [← hz']; simp; omega
    subst e
    clear hz' h
    go_enter Tryd.func30, Tryd.ntmps30
    go_wp2
    go_ret
    exact ⟨rfl, rfl⟩
  · have o := ord_eq hx' max_nan (by rw [max_kv]; exact h)
    have e : z = false := by rw [← hz']; simp; omega
    subst e
    clear hz' h
    go_enter Tryd.func30, Tryd.ntmps30
    go_wp2
    go_ret
    exact ⟨rfl, rfl⟩
  · have o := ord_gt hx' max_nan (by rw [max_kv]; exact h)
    have e : z = true := by
      rw [← hz']
      have h1 := rg_cases hx'
      revert h
      unfold kv
      cases sg y <;> simp [sgn] <;> omega
    subst e
    clear hz' h
    go_enter Tryd.func30, Tryd.ntmps30
    go_wp2
    go_ret
    exact ⟨rfl, rfl⟩

theorem frombits (w : World) (b : Int) : (callFunc 37 #[.int .u64 b]).run Tryd.prog w = .ok (.value (.float .f64 b.toNat)) w := by kernel_rfl
theorem abs_bits (x : Nat) : (bits .andNot .u64 (x : Int) 9223372036854775808).toNat = rg x := by
  have h1 : ~~~(BitVec.ofInt 64 9223372036854775808) = BitVec.ofNat 64 (2 ^ 63 - 1) := by decide
  have h2 : (BitVec.ofInt 64 (x : Int)).toNat = x % 2 ^ 64 := by rw [BitVec.toNat_ofInt]; omega
  have h3 : (BitVec.ofNat 64 (2 ^ 63 - 1)).toNat = 2 ^ 63 - 1 := by decide
  have h4 : bits .andNot .u64 (x : Int) 9223372036854775808 = IntKind.u64.wrap ((BitVec.ofInt 64 (x : Int) &&& ~~~(BitVec.ofInt 64 9223372036854775808)).toNat) := rfl
  rw [h4, h1, BitVec.toNat_and, h2, h3, Nat.and_two_pow_sub_one_eq_mod]
  unfold rg
  have : x % 2 ^ 64 % 2 ^ 63 = x % 9223372036854775808 := by omega
  rw [this]
  have e : IntKind.u64.wrap ((x % 9223372036854775808 : Nat) : Int) = ((x % 9223372036854775808 : Nat) : Int) := by
    simp [IntKind.wrap, IntKind.bits, IntKind.signed]; omega
  rw [e]
  omega
theorem abs_any (w : World) (x : Nat) : Calls Tryd.prog 32 #[.float .f64 x] w fun e w' => (∃ a, e = .returned (.float .f64 a) ∧ rg a = rg x ∧ sg a = false) ∧ w = w' := by
  have hb := fun w => bits_ext w x
  have hf := frombits
  go_enter Tryd.func32, Tryd.ntmps32
  go_wp2
  go_ret
  refine ⟨⟨_, rfl, ?_, ?_⟩, rfl⟩
  · rw [abs_bits]; unfold rg; omega
  · rw [abs_bits]; unfold sg rg; simp


/-- Words that read alike. -/
theorem read_rs {x y : Nat} (h1 : rg x = rg y) (h2 : sg x = sg y) : double.read x = double.read y := by
  unfold rg sg at *
  unfold Format.read
  simp only [db_sw, db_bin, db_inf, db_least]
  rw [h1, h2]
theorem val_rv {x : Nat} {V : Int} (h : HasV x V) : rg x < 9218868437227405312 ∧ V = sgn (sg x) (rv (rg x)) := by
  obtain ⟨s, m, i, h1, h2, h3, rfl⟩ := h.ex
  have hr : rg x < 9218868437227405312 := by
    apply Classical.byContradiction
    intro h0
    by_cases h' : rg x = 9218868437227405312
    · rw [read_inf h'] at h1; cases h1
    · obtain ⟨s', f, h4⟩ := read_nan (x := x) (decide_eq_true (by omega))
      rw [h4] at h1; cases h1
  obtain ⟨m', i', e1, e2, e3, e4⟩ := read_num hr
  rw [e1] at h1
  cases h1
  refine ⟨hr, ?_⟩
  rw [← e4]
  cases sg x <;> simp [sgn, Int.neg_mul]
theorem rv_inj {a b : Nat} (h : rv a = rv b) : a = b := by
  rcases Nat.lt_trichotomy a b with k | k | k
  · have := rv_lt k; omega
  · exact k
  · have := rv_lt k; omega
/-- Words of one value, not negative, are one. -/
theorem word_of_val {x y : Nat} {V : Int} (hx : HasV x V) (hy : HasV y V) (kx : x < 9223372036854775808) (ky : y < 9223372036854775808) : x = y := by
  obtain ⟨-, e1⟩ := val_rv hx
  obtain ⟨-, e2⟩ := val_rv hy
  have s1 : sg x = false := by unfold sg; simp; omega
  have s2 : sg y = false := by unfold sg; simp; omega
  rw [s1] at e1
  rw [s2] at e2
  have : rv (rg x) = rv (rg y) := by
    rw [e1] at e2
    simp only [sgn, Bool.false_eq_true, if_false] at e2
    omega
  have := rv_inj this
  unfold rg at this
  omega
/-- What is written of a number that is not negative. -/
theorem near_word (mag : Nat) (place : Int) : double.nearest false mag place ≤ 9218868437227405312 := by
  have key : ∀ g, g ≤ 9218868437227405312 → double.word false g ≤ 9218868437227405312 := by
    intro g hg
    unfold Format.word
    simpa using hg
  unfold Format.nearest
  simp only [db_inf]
  by_cases h0 : mag = 0
  · rw [if_pos h0]; exact key 0 (by omega)
  · rw [if_neg h0]; exact key _ (Nat.min_le_right _ _)
theorem near_word2 (s : Bool) (mag : Nat) (place : Int) : nanB (double.nearest s mag place) = false := by
  have key : ∀ g, g ≤ 9218868437227405312 → nanB (double.word s g) = false := by
    intro g hg
    unfold nanB rg Format.word
    simp only [db_sw]
    cases s <;> simp <;> omega
  unfold Format.nearest
  simp only [db_inf]
  by_cases h0 : mag = 0
  · rw [if_pos h0]; exact key 0 (by omega)
  · rw [if_neg h0]; exact key _ (Nat.min_le_right _ _)
theorem nn_le {x : Nat} (h : x ≤ 9218868437227405312) : sg x = false ∧ rg x = x ∧ nanB x = false := by
  have e : rg x = x := by unfold rg; omega
  refine ⟨by unfold sg; simp; omega, e, ?_⟩
  unfold nanB
  rw [e]
  exact decide_eq_false (by omega)

def c100 : Nat := 4636737291354636288
def c50 : Nat := 4832362400168542208
def half : Nat := 4602678819172646912
theorem read_c100 : double.read 4636737291354636288 = .number false 7036874417766400 (-46) := by decide +kernel
theorem c50_val : HasV c50 (1125899906842624 * T) := ⟨⟨false, 4503599627370496, -2, by decide +kernel, by omega, by omega, by decide +kernel⟩⟩
def pW (x : Nat) : Nat := (floatBits .mul .f64 c100 (rg x)).getD 0
def flW (p : Nat) : Nat := (floorBits p).getD 0
def nW (p : Nat) : Int := (floatToIntVal .f64 (flW p) .i64).getD 0
def dW (p : Nat) : Nat := (floatBits .sub .f64 p (flW p)).getD 0
def numT (p : Nat) : Int := nW p + if kv half ≤ kv (dW p) then 1 else 0

/-- A hundred times a number's size. -/
theorem pW_is {x a : Nat} (hx : rg x < 9218868437227405312) (ha : rg a = rg x) (hs : sg a = false) :
    floatBits .mul .f64 4636737291354636288 a = some (pW x) ∧ floatBits .mul .f64 a 4636737291354636288 = some (pW x) ∧ pW x ≤ 9218868437227405312 := by
  have hrx : rg (rg x) = rg x := by unfold rg; omega
  have hsx : sg (rg x) = false := by have := rg_lt x; unfold sg; simp; omega
  obtain ⟨m, i, h1, h2, h3, h4⟩ := read_num (x := rg x) (by rw [hrx]; exact hx)
  rw [hsx] at h1
  have e : double.read a = .number false m i := by
    rw [← h1]
    exact read_rs (by rw [hrx, ha]) (by rw [hs, hsx])
  have e1 : ∀ y, double.read y = .number false m i → floatBits .mul .f64 4636737291354636288 y = some (double.nearest false (7036874417766400 * m) (-46 + i)) := by
    intro y hy
    show Format.mul double _ _ = _
    unfold Format.mul
    rw [hy, read_c100]
    rfl
  have e2 : floatBits .mul .f64 a 4636737291354636288 = some (double.nearest false (7036874417766400 * m) (-46 + i)) := by
    show Format.mul double _ _ = _
    unfold Format.mul
    rw [e, read_c100, Nat.mul_comm, Int.add_comm]
    rfl
  have e3 : pW x = double.nearest false (7036874417766400 * m) (-46 + i) := by
    unfold pW c100
    rw [e1 _ h1]; rfl
  rw [e3]
  exact ⟨e1 a e, e2, near_word _ _⟩

theorem sub_fin {p f m n : Nat} {s t : Bool} {i j : Int} (h1 : double.read p = .number s m i) (h2 : double.read f = .number t n j) : ∃ d, floatBits .sub .f64 p f = some d ∧ nanB d = false := by
  have e : floatBits .sub .f64 p f = ((Datum.number s m i).sum (Datum.number t n j).opposite).map double.write := by
    show Format.sub double p f = _
    unfold Format.sub
    rw [h1, h2]
  rw [e]
  simp only [Datum.opposite, Datum.sum, Option.map_some]
  exact ⟨_, rfl, near_word2 _ _ _⟩
theorem T_bound : ∃ E : Nat, E ≤ 2000 ∧ (1125899906842624 * T) = 2 ^ E := by
  refine ⟨50 + 1074, by omega, ?_⟩
  unfold T
  have : (1125899906842624 : Int) = 2 ^ 50 := by decide
  rw [this, ← Int.pow_add]

/-- Below 2^50: its whole part, twice. -/
theorem part_is {p : Nat} (hp : p ≤ 9218868437227405312) (hlt : kv p < kv c50) :
    floorBits p = some (flW p) ∧ floatToIntVal .f64 (flW p) .i64 = some (nW p) ∧ floatToIntVal .f64 p .i64 = some (nW p) ∧ floatOfInt .f64 (nW p) = flW p ∧ floatBits .sub .f64 p (flW p) = some (dW p) ∧ nanB (dW p) = false ∧ 0 ≤ nW p ∧ nW p < 1125899906842624 := by
  obtain ⟨s1, s2, s3⟩ := nn_le hp
  have hk : kv p = p := by unfold kv; rw [s1, s2]; rfl
  have hc : kv c50 = 4832362400168542208 := by decide
  have hr : rg p < 9218868437227405312 := by rw [hk, hc] at hlt; rw [s2]; omega
  obtain ⟨m, i, h1, h2, h3, h4⟩ := read_num hr
  rw [s1] at h1
  obtain ⟨V, hV⟩ : ∃ V, V = sgn false m * 2 ^ (i + 1074).toNat := ⟨_, rfl⟩
  have hval : HasV p V := ⟨⟨false, m, i, h1, h2, h3, hV⟩⟩
  have hV0 : 0 ≤ V := by
    rw [hV]
    exact Int.mul_nonneg (by simp [sgn]) (Int.le_of_lt (Int.pow_pos (by omega)))
  have hT := T_pos
  have hVl : V < 1125899906842624 * T := by
    have o1 := ord_lt s3 (by decide) hlt
    have o2 : FloatKind.f64.format.order p c50 = _ := order_val hval c50_val
    rw [o1] at o2
    exact Int.compare_eq_lt.1 (Option.some.inj o2).symm
  obtain ⟨E, hE2, hTE⟩ := T_bound
  have hE : V.natAbs < 2 ^ E := by
    rw [hTE] at hVl
    have : (V.natAbs : Int) < ((2 ^ E : Nat) : Int) := by
      rw [Int.natCast_pow]
      have e : (V.natAbs : Int) = V := by omega
      rw [e]
      exact hVl
    exact Int.ofNat_lt.1 this
  obtain ⟨-, hf⟩ := floor_val (E := E) hE2 hval hE
  have n1 : 0 ≤ V / T := Int.ediv_nonneg hV0 (by omega)
  have n2 : V / T < 1125899906842624 := Int.ediv_lt_of_lt_mul hT hVl
  have f1 : floorBits p = some (double.write ((double.read p).integral .down)) := by
    show (match double.read p with | .nan _ _ => none | d => some (double.write (d.integral .down))) = _
    rw [h1]
  have f2 : flW p = double.write ((double.read p).integral .down) := by unfold flW; rw [f1]; rfl
  have f3 : flW p ≤ 9218868437227405312 := by
    rw [f2, h1]
    exact near_word _ _
  rw [← f2] at hf
  have g1 : floatToIntVal .f64 (flW p) .i64 = some (V / T) := by
    have e : (double.read (flW p)).toInt .zero = some ((V / T * T).tdiv T) := int_val hf
    have e' : (V / T * T).tdiv T = V / T := Int.mul_tdiv_cancel _ (by omega)
    rw [e'] at e
    unfold floatToIntVal
    show (match (double.read (flW p)).toInt .zero with | some n => if IntKind.i64.min ≤ n ∧ n ≤ IntKind.i64.max then some n else none | none => none) = _
    rw [e]
    have : IntKind.i64.min ≤ V / T ∧ V / T ≤ IntKind.i64.max := by
      have a1 : IntKind.i64.min = -9223372036854775808 := by decide
      have a2 : IntKind.i64.max = 9223372036854775807 := by decide
      omega
    exact if_pos this
  have g2 : floatToIntVal .f64 p .i64 = some (V / T) := by
    have e : (double.read p).toInt .zero = some (V.tdiv T) := int_val hval
    rw [Int.tdiv_eq_ediv_of_nonneg hV0] at e
    unfold floatToIntVal
    show (match (double.read p).toInt .zero with | some n => if IntKind.i64.min ≤ n ∧ n ≤ IntKind.i64.max then some n else none | none => none) = _
    rw [e]
    have : IntKind.i64.min ≤ V / T ∧ V / T ≤ IntKind.i64.max := by
      have a1 : IntKind.i64.min = -9223372036854775808 := by decide
      have a2 : IntKind.i64.max = 9223372036854775807 := by decide
      omega
    exact if_pos this
  have g3 : nW p = V / T := by unfold nW; rw [g1]; rfl
  have g4 : floatOfInt .f64 (V / T) = flW p := by
    refine word_of_val (ofInt_val (V / T) (V / T).natAbs 0 (by simp) (by omega) (by omega)) hf ?_ (by omega)
    have : floatOfInt .f64 (V / T) = double.nearest (decide (V / T < 0)) (V / T).natAbs 0 := rfl
    rw [this, decide_eq_false (by omega)]
    have := near_word (V / T).natAbs 0
    omega
  obtain ⟨m2, i2, k1, k2, k3, k4⟩ := read_num (val_rv hf).1
  rw [(nn_le f3).1] at k1
  obtain ⟨d, g5, g7⟩ := sub_fin h1 k1
  have g6 : dW p = d := by unfold dW; rw [g5]; rfl
  rw [g3]
  exact ⟨by rw [f1, f2], g1, g2, g4, by rw [g5, g6], by rw [g6]; exact g7, n1, n2⟩

end Go.Proofs.YthhgpoihkmokcaaDoor
