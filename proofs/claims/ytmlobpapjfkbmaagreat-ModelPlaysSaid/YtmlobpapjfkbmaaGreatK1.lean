/- Part 1 of what is proved of the program of layer 16: FixPlain, Base, Own, Chg, App. -/
import Derived.Test.YtmlobpapjfkbmaaGreatRows
import Derived.WalkKit
import Derived.WalkSpells
import Derived.WalkLawsBesides
import Derived.Lib.Hide
import Derived.Below
import Derived.Laws.Rows
import Derived.Deep.QuietTactic
import Derived.BigQuiet
import Derived.Deep.RegionWith
import Derived.OwnWalk
import Derived.Laws.OwnMore
import Derived.OneCell
import Derived.ArgAppend
/-
  Plain arithmetic of fixed-point numbers and of the schoolbook division of two words by one: no program in sight.
-/
namespace Go.Proofs.YtmlobpapjfkbmaaGreat

def fMax : Int := 9223372036854775807
def fMin : Int := -9223372036854775808
/-- Into int64: the nearer end. -/
def clamp (x : Int) : Int := if x < -9223372036854775808 then fMin else if 9223372036854775807 < x then fMax else x

theorem clamp_in {x : Int} (h : -9223372036854775808 ≤ x) (h' : x ≤ 9223372036854775807) : clamp x = x := by
  unfold clamp; rw [if_neg (by omega), if_neg (by omega)]
theorem clamp_le (x : Int) : -9223372036854775808 ≤ clamp x ∧ clamp x ≤ 9223372036854775807 := by
  unfold clamp fMin fMax; split <;> (try split) <;> omega
theorem clamp_cases (x : Int) : (x < -9223372036854775808 ∧ clamp x = -9223372036854775808) ∨ (9223372036854775807 < x ∧ clamp x = 9223372036854775807) ∨ (-9223372036854775808 ≤ x ∧ x ≤ 9223372036854775807 ∧ clamp x = x) := by
  by_cases h : x < -9223372036854775808
  · exact .inl ⟨h, by unfold clamp fMin; rw [if_pos h]⟩
  · by_cases h' : 9223372036854775807 < x
    · exact .inr (.inl ⟨h', by unfold clamp fMax; rw [if_neg h, if_pos h']⟩)
    · exact .inr (.inr ⟨by omega, by omega, clamp_in (by omega) (by omega)⟩)
theorem clamp_mono {x y : Int} (h : x ≤ y) : clamp x ≤ clamp y := by
  rcases clamp_cases x with h1 | h1 | h1 <;> rcases clamp_cases y with h2 | h2 | h2 <;> omega
theorem clamp_above {x : Int} (h : 9223372036854775807 ≤ x) : clamp x = 9223372036854775807 := by
  rcases clamp_cases x with h1 | h1 | h1 <;> omega
theorem clamp_below {x : Int} (h : x ≤ -9223372036854775808) : clamp x = -9223372036854775808 := by
  rcases clamp_cases x with h1 | h1 | h1 <;> omega

def fAdd (a b : Int) : Int := clamp (a + b)
def fSub (a b : Int) : Int := clamp (a - b)
def fMul (a b : Int) : Int := clamp (a * b / 1048576)
/-- The greatest whole number that is not above n by d. -/
def floorDiv (n d : Int) : Int := if 0 < d then n / d else (-n) / (-d)
def fDiv (a b : Int) : Int := if b = 0 then (if 0 < a then fMax else if a < 0 then fMin else 0) else clamp (floorDiv (a * 1048576) b)
def fWhole (n : Int) : Int := clamp (n * 1048576)
def fInt (a : Int) : Int := a / 1048576

/-- A number of its size and its sign, as the code makes it. -/
def madeV (n : Nat) (below more : Bool) : Int := if below then clamp (-((n + more.toNat : Nat) : Int)) else clamp (n : Int)

theorem neg_ediv (n d : Nat) (hd : 0 < d) : (-(n : Int)) / (d : Int) = -((n / d + (decide (n % d ≠ 0)).toNat : Nat) : Int) := by
  have e := Nat.div_add_mod n d
  have hr := Nat.mod_lt n hd
  generalize n / d = q at *
  generalize n % d = r at *
  subst e
  by_cases h : r = 0
  · subst h
    simp only [Nat.add_zero, ne_eq, not_true, decide_false, Bool.toNat_false]
    rw [Int.natCast_mul, ← Int.mul_neg, Int.mul_ediv_cancel_left _ (by omega)]
  · simp only [ne_eq, h, not_false_eq_true, decide_true, Bool.toNat_true]
    have e2 : (-((d * q + r : Nat) : Int)) = ((d - r : Nat) : Int) + (d : Int) * (-((q + 1 : Nat) : Int)) := by
      rw [Int.natCast_add, Int.natCast_mul, Int.natCast_add, Int.natCast_sub (by omega)]
      generalize (d : Int) = D
      generalize (q : Int) = Q
      generalize (r : Int) = R
      simp only [Int.mul_neg, Int.mul_add, Int.natCast_one, Int.mul_one]
      omega
    rw [e2, Int.add_mul_ediv_left _ _ (by omega), Int.ediv_eq_zero_of_lt (by omega) (by omega)]
    omega

theorem madeV_pos (n : Nat) (more : Bool) : madeV n false more = clamp (n : Int) := rfl
theorem madeV_neg (n : Nat) (more : Bool) : madeV n true more = clamp (-((n + more.toNat : Nat) : Int)) := rfl
theorem floorDiv_pos {n d : Int} (h : 0 < d) : floorDiv n d = n / d := if_pos h
theorem floorDiv_neg {n d : Int} (h : ¬ 0 < d) : floorDiv n d = (-n) / (-d) := if_neg h

/-- The sign of a product. -/
theorem mul_sign (a b : Int) : ((decide (a < 0) != decide (b < 0)) = true ∧ a * b = -((a.natAbs * b.natAbs : Nat) : Int)) ∨ ((decide (a < 0) != decide (b < 0)) = false ∧ a * b = ((a.natAbs * b.natAbs : Nat) : Int)) := by
  rw [Int.natCast_mul]
  rcases Int.lt_or_le a 0 with ha | ha <;> rcases Int.lt_or_le b 0 with hb | hb
  · have e1 : (a.natAbs : Int) = -a := by omega
    have e2 : (b.natAbs : Int) = -b := by omega
    exact .inr ⟨by simp [ha, hb], by rw [e1, e2, Int.neg_mul_neg]⟩
  · have e1 : (a.natAbs : Int) = -a := by omega
    have e2 : (b.natAbs : Int) = b := by omega
    exact .inl ⟨by simp [ha]; omega, by rw [e1, e2, Int.neg_mul, Int.neg_neg]⟩
  · have e1 : (a.natAbs : Int) = a := by omega
    have e2 : (b.natAbs : Int) = -b := by omega
    exact .inl ⟨by simp [hb]; omega, by rw [e1, e2, Int.mul_neg, Int.neg_neg]⟩
  · have e1 : (a.natAbs : Int) = a := by omega
    have e2 : (b.natAbs : Int) = b := by omega
    exact .inr ⟨by simp; omega, by rw [e1, e2]⟩

theorem mul_made (a b : Int) : madeV (a.natAbs * b.natAbs / 1048576) (decide (a < 0) != decide (b < 0)) (decide (a.natAbs * b.natAbs % 1048576 ≠ 0)) = fMul a b := by
  unfold fMul
  rcases mul_sign a b with ⟨h1, h2⟩ | ⟨h1, h2⟩
  · rw [h1, h2, madeV_neg, ← neg_ediv _ 1048576 (by omega)]; rfl
  · rw [h1, h2, madeV_pos]; rfl

theorem div_made (a b : Int) (hb : b ≠ 0) : madeV (a.natAbs * 1048576 / b.natAbs) (decide (a < 0) != decide (b < 0)) (decide (a.natAbs * 1048576 % b.natAbs ≠ 0)) = fDiv a b := by
  unfold fDiv
  rw [if_neg hb]
  have hd : 0 < b.natAbs := by omega
  have hn := neg_ediv (a.natAbs * 1048576) b.natAbs hd
  have hp : ((a.natAbs * 1048576 / b.natAbs : Nat) : Int) = ((a.natAbs * 1048576 : Nat) : Int) / (b.natAbs : Int) := Int.natCast_ediv _ _
  rcases Int.lt_or_le b 0 with hb' | hb'
  · have e2 : -b = (b.natAbs : Int) := by omega
    rw [floorDiv_neg (by omega), e2]
    rcases Int.lt_or_le a 0 with ha | ha
    · have e1 : (-(a * 1048576)) = ((a.natAbs * 1048576 : Nat) : Int) := by omega
      have h1 : (decide (a < 0) != decide (b < 0)) = false := by simp [ha, hb']
      rw [h1, e1, madeV_pos, hp]
    · have e1 : (-(a * 1048576)) = -((a.natAbs * 1048576 : Nat) : Int) := by omega
      have h1 : (decide (a < 0) != decide (b < 0)) = true := by simp [hb']; omega
      rw [h1, e1, madeV_neg, hn]
  · have e2 : b = (b.natAbs : Int) := by omega
    have e3 : floorDiv (a * 1048576) b = (a * 1048576) / (b.natAbs : Int) := by rw [floorDiv_pos (by omega), ← e2]
    rw [e3]
    rcases Int.lt_or_le a 0 with ha | ha
    · have e1 : a * 1048576 = -((a.natAbs * 1048576 : Nat) : Int) := by omega
      have h1 : (decide (a < 0) != decide (b < 0)) = true := by simp [ha]; omega
      rw [h1, e1, madeV_neg, hn]
    · have e1 : a * 1048576 = ((a.natAbs * 1048576 : Nat) : Int) := by omega
      have h1 : (decide (a < 0) != decide (b < 0)) = false := by simp; omega
      rw [h1, e1, madeV_pos, hp]

theorem whole_mul (n : Int) : fMul n 1099511627776 = fWhole n := by
  unfold fMul fWhole
  congr 1
  omega

/-- What Knuth's trial quotient needs: the quotient digit. -/
theorem knuth_ge {yn1 yn0 u u1 q : Nat} (hu1 : u1 < 4294967296)
    (hq : q * (yn1 * 4294967296 + yn0) ≤ u * 4294967296 + u1) : q * yn1 ≤ u := by
  have e : q * (yn1 * 4294967296 + yn0) = (q * yn1) * 4294967296 + q * yn0 := by
    rw [Nat.mul_add, Nat.mul_assoc]
  rw [e] at hq
  generalize q * yn1 = a at *
  generalize q * yn0 = b at *
  omega

/-- The loop's state. -/
structure KInv (yn1 yn0 u u1 qh rh : Nat) : Prop where
  split : qh * yn1 + rh = u
  ge : (u * 4294967296 + u1) / (yn1 * 4294967296 + yn0) ≤ qh
  small : qh ≤ 4294967297

theorem kinv_start {yn1 yn0 u u1 : Nat} (h1 : 2147483648 ≤ yn1) (h0 : yn0 < 4294967296) (hu : u < yn1 * 4294967296 + yn0) (hu1 : u1 < 4294967296) :
    KInv yn1 yn0 u u1 (u / yn1) (u - (u / yn1) * yn1) := by
  have hpos : 0 < yn1 := by omega
  have hd := Nat.div_mul_le_self u yn1
  refine ⟨by omega, ?_, ?_⟩
  · rw [Nat.le_div_iff_mul_le hpos]
    exact knuth_ge hu1 (Nat.div_mul_le_self _ _)
  · refine Nat.le_of_lt_succ ((Nat.div_lt_iff_lt_mul hpos).2 ?_)
    omega

theorem kinv_rh {yn1 u : Nat} (hpos : 0 < yn1) : u - (u / yn1) * yn1 < yn1 := by
  have := Nat.mod_lt u hpos
  have h2 := Nat.div_add_mod u yn1
  rw [Nat.mul_comm] at h2
  generalize u / yn1 * yn1 = a at *
  omega

/-- The quotient digit is below 2^32. -/
theorem kq_lt {d u u1 : Nat} (hu : u < d) (hu1 : u1 < 4294967296) : (u * 4294967296 + u1) / d < 4294967296 := by
  have hd : 0 < d := by omega
  rw [Nat.div_lt_iff_lt_mul hd]
  omega

/-- A round: the test said the trial is too great. -/
theorem kinv_step {yn1 yn0 u u1 qh rh : Nat} (hu : u < yn1 * 4294967296 + yn0) (hu1 : u1 < 4294967296) (h : KInv yn1 yn0 u u1 qh rh)
    (ht : 4294967296 ≤ qh ∨ 4294967296 * rh + u1 < qh * yn0) : 1 ≤ qh ∧ KInv yn1 yn0 u u1 (qh - 1) (rh + yn1) := by
  have hlt := kq_lt hu hu1
  have hq : (u * 4294967296 + u1) / (yn1 * 4294967296 + yn0) < qh := by
    rcases ht with ht | ht
    · omega
    · rw [Nat.div_lt_iff_lt_mul (by omega), Nat.mul_add, ← Nat.mul_assoc]
      have := h.split
      generalize qh * yn1 = a at *
      generalize qh * yn0 = b at *
      omega
  have hs := h.split
  have hsm := h.small
  generalize hQ : (u * 4294967296 + u1) / (yn1 * 4294967296 + yn0) = Q at *
  obtain ⟨k, rfl⟩ : ∃ k, qh = k + 1 := ⟨qh - 1, by omega⟩
  rw [Nat.add_mul] at hs
  refine ⟨by omega, ⟨?_, ?_, by omega⟩⟩
  · simp only [Nat.add_sub_cancel]
    omega
  · rw [hQ]; omega

/-- The end: the test said no, or the rest has grown. -/
theorem kinv_end {yn1 yn0 u u1 qh rh : Nat} (h1 : 2147483648 ≤ yn1) (h : KInv yn1 yn0 u u1 qh rh)
    (ht : qh * yn0 ≤ 4294967296 * rh + u1) : qh = (u * 4294967296 + u1) / (yn1 * 4294967296 + yn0) := by
  refine Nat.le_antisymm ?_ h.ge
  rw [Nat.le_div_iff_mul_le (by omega), Nat.mul_add, ← Nat.mul_assoc]
  have := h.split
  generalize qh * yn1 = a at *
  generalize qh * yn0 = b at *
  omega

theorem kinv_end_great {yn0 u1 qh rh : Nat} (h0 : yn0 < 4294967296) (hq : qh ≤ 4294967296) (hr : 4294967296 ≤ rh) : qh * yn0 ≤ 4294967296 * rh + u1 := by
  have : qh * yn0 ≤ 4294967296 * 4294967295 := Nat.mul_le_mul hq (by omega)
  omega

/-- What is left. -/
theorem krest {d n : Nat} : n - n / d * d = n % d := by
  have := Nat.div_add_mod n d
  rw [Nat.mul_comm] at this
  omega

/-- The two digits together. -/
theorem kdigits' {M d u u1 u0 : Nat} (hd : 0 < d) :
    ((u * M + u1) / d) * M + (((u * M + u1) % d) * M + u0) / d = ((u * M + u1) * M + u0) / d ∧
    (((u * M + u1) % d) * M + u0) % d = ((u * M + u1) * M + u0) % d := by
  generalize hN : u * M + u1 = N
  have h1 := Nat.div_add_mod N d
  have e : N * M + u0 = ((N % d) * M + u0) + d * (N / d * M) := by
    rw [← Nat.mul_assoc]
    have h2 : (d * (N / d) + N % d) * M = N * M := by rw [h1]
    rw [Nat.add_mul] at h2
    omega
  have k1 := Nat.add_mul_div_left ((N % d) * M + u0) (N / d * M) hd
  have k2 := Nat.add_mul_mod_self_left ((N % d) * M + u0) d (N / d * M)
  rw [← e] at k1 k2
  exact ⟨by omega, k2.symm⟩

theorem kdigits {d u u1 u0 : Nat} (hd : 0 < d) :
    ((u * 4294967296 + u1) / d) * 4294967296 + (((u * 4294967296 + u1) % d) * 4294967296 + u0) / d = ((u * 4294967296 + u1) * 4294967296 + u0) / d ∧
    (((u * 4294967296 + u1) % d) * 4294967296 + u0) % d = ((u * 4294967296 + u1) * 4294967296 + u0) % d := kdigits' hd

/-- Scaled by a power of two. -/
theorem kscale (n d s : Nat) : (n * 2 ^ s) / (d * 2 ^ s) = n / d ∧ ((n * 2 ^ s) % (d * 2 ^ s)) / 2 ^ s = n % d := by
  have hp : 0 < 2 ^ s := Nat.two_pow_pos s
  refine ⟨Nat.mul_div_mul_right _ _ hp, ?_⟩
  rw [Nat.mul_mod_mul_right, Nat.mul_div_cancel _ hp]

end Go.Proofs.YtmlobpapjfkbmaaGreat

/- The ground of the walks. -/
namespace Go.Proofs.YtmlobpapjfkbmaaGreat
open Go.RowKit
set_option linter.unusedVariables false
set_option maxRecDepth 20000

theorem ret_int {k : IntKind} {a b : Int} (h : a = b) : Ending.returned (.int k a) = .returned (.int k b) := by rw [h]

theorem umod_bd (x m : Int) (hm : 0 < m) : 0 ≤ (IntKind.u64.wrap x).tmod m ∧ (IntKind.u64.wrap x).tmod m < m :=
  ⟨Int.tmod_nonneg m (wrap_u64_nonneg x), Int.tmod_lt_of_pos _ hm⟩

theorem wf64 {a : Int} (h : (Lit.int .i64 a).wf = true) : -9223372036854775808 ≤ a ∧ a ≤ 9223372036854775807 := by
  simp [Lit.wf] at h; exact h

end Go.Proofs.YtmlobpapjfkbmaaGreat

/- Worlds with new blocks; blocks that are known whole; regions that draw their order and whose callees make memory. -/
namespace Go.Proofs.YtmlobpapjfkbmaaGreat
open Go.RowKit
set_option linter.unusedVariables false
set_option maxRecDepth 20000

/-- The world with new blocks: nothing that was there has turned. -/
def Ex (w w' : World) : Prop := Below w.heap.size w w'
theorem Ex.refl (w : World) : Ex w w := Below.refl _ _
theorem Ex.trans {a b c : World} (h : Ex a b) (k : Ex b c) : Ex a c := Below.trans h (Below.mono k h.size)
theorem Ex.drawn (w : World) (n : Nat) : Ex w (w.drewN n) := ⟨rfl, rfl, rfl, Nat.le_refl _, fun _ _ => rfl⟩
theorem Ex.made (w : World) (o : Obj) : Ex w (w.alloc o) := (Below.refl _ _).alloc (Nat.le_refl _) o

/-- A block is known whole. -/
def Box (w : World) (b : Nat) (cs : Array Value) (t : TypeId) : Prop := w.heap[b]? = some (.cells cs t (0, 0))
theorem Box.lt {w : World} {b : Nat} {cs : Array Value} {t : TypeId} (h : Box w b cs t) : b < w.heap.size := (Array.getElem?_eq_some_iff.1 h).1
theorem Box.ex {w w' : World} {b : Nat} {cs : Array Value} {t : TypeId} (h : Box w b cs t) (k : Ex w w') : Box w' b cs t := (k.block b h.lt).trans h
theorem Box.new {w w' : World} {cs : Array Value} {t : TypeId} (k : Ex (w.alloc (.cells cs t)) w') : Box w' w.heap.size cs t :=
  (k.block _ (by simp)).trans (heap_alloc_new _ _)
theorem Box.fresh (w : World) (cs : Array Value) (t : TypeId) : Box (w.alloc (.cells cs t)) w.heap.size cs t := heap_alloc_new _ _
theorem Box.next {w w' : World} {b : Nat} {cs : Array Value} {t : TypeId} {o : Obj} (h : Box w b cs t) (k : Ex (w.alloc o) w') : Box w' b cs t :=
  h.ex (Ex.trans (Ex.made w o) k)
theorem Box.cell {w : World} {b : Nat} {cs : Array Value} {t : TypeId} (h : Box w b cs t) (j : Nat) : w.cell? ⟨b, j, none⟩ = cs[j]? := cell_of_row w b j cs t (0, 0) h
theorem Box.soft {w : World} {b : Nat} {cs : Array Value} {t : TypeId} (h : Box w b cs t) (j : Nat) : w.frozen? ⟨b, j, none⟩ = false := by
  unfold Box at h
  simp [World.frozen?, h]
theorem Ex.new {w w1 w2 : World} {o : Obj} (h : Ex w w1) (k : Ex (w1.alloc o) w2) : Ex w w2 := h.trans (Ex.trans (Ex.made w1 o) k)

/-- The worlds in which nothing of W has turned. -/
def Out (W : World) : Type := { w : World // Ex W w }
instance Out.some (W : World) : Nonempty (Out W) := ⟨⟨W, Ex.refl W⟩⟩
def Out.w {W : World} (x : Out W) : World := x.1

theorem wp_region_ex {P : Program} {id : Nat} {Q : Exit → Act → World → Prop} {a : Act} {W : World} {l : List Oper} (hm : P.follows .mixedOrders = true) (hB : Region.lexB .any l.toArray = true)
    (h : wpQuiet P l.toArray (fun w' => ∃ x : Out W, w' = x.w) (fun a' => ∀ w', (∃ x : Out W, w' = x.w) → Q .normal a' w') l a) : (Code.region id l.toArray true).wp P Q a W :=
  wp_region_quiet (C := fun w' => ∃ x : Out W, w' = x.w) hm hB ⟨⟨{ W with drawn := W.drawn + 1 }, ⟨rfl, rfl, rfl, Nat.le_refl _, fun _ _ => rfl⟩⟩, rfl⟩ (by simpa using h)

theorem quiet_ex {P : Program} {f : FuncId} {args : Array Value} {W : World} {x : Out W} {v : Value} (h : Calls P f args x.w fun e w' => e = .returned v ∧ Ex x.w w') :
    Calls P f args x.w fun e w'' => e = .returned v ∧ ∃ y : Out W, w'' = y.w :=
  h.mono fun _ w' ⟨he, hw⟩ => ⟨he, ⟨w', x.2.trans hw⟩, rfl⟩
theorem quiet_eq {P : Program} {f : FuncId} {args : Array Value} {W : World} {x : Out W} {v : Value} (h : Calls P f args x.w fun e w' => e = .returned v ∧ x.w = w') :
    Calls P f args x.w fun e w'' => e = .returned v ∧ ∃ y : Out W, w'' = y.w :=
  h.mono fun _ w' ⟨he, hw⟩ => ⟨he, x, hw.symm⟩
theorem Box.out {W : World} {b : Nat} {cs : Array Value} {t : TypeId} (h : Box W b cs t) (j : Nat) : ∀ o : Out W, o.w.cell? ⟨b, j, none⟩ = cs[j]? := fun o => (h.ex o.2).cell j

end Go.Proofs.YtmlobpapjfkbmaaGreat

/- Worlds that differ in some blocks alone; rows and boxes that stay. -/
namespace Go.Proofs.YtmlobpapjfkbmaaGreat
open Go.RowKit
set_option linter.unusedVariables false
set_option maxRecDepth 20000

/-- From a world to a later one: new blocks, and writes to the blocks of F alone. -/
structure Chg (F : Nat → Prop) (w w' : World) : Prop where
  os : w'.os = w.os
  tape : w'.tape = w.tape
  output : w'.output = w.output
  size : w.heap.size ≤ w'.heap.size
  block : ∀ k, k < w.heap.size → ¬ F k → w'.heap[k]? = w.heap[k]?

theorem Chg.refl (F : Nat → Prop) (w : World) : Chg F w w := ⟨rfl, rfl, rfl, Nat.le_refl _, fun _ _ _ => rfl⟩
theorem Chg.trans {F G : Nat → Prop} {a b c : World} (h : Chg F a b) (k : Chg G b c) (hs : ∀ i, i < a.heap.size → G i → F i) : Chg F a c :=
  ⟨k.os.trans h.os, k.tape.trans h.tape, k.output.trans h.output, Nat.le_trans h.size k.size, fun i hi hf => (k.block i (Nat.lt_of_lt_of_le hi h.size) (fun g => hf (hs i hi g))).trans (h.block i hi hf)⟩
theorem Chg.ex {F : Nat → Prop} {a b c : World} (h : Chg F a b) (k : Ex b c) : Chg F a c :=
  ⟨k.os.trans h.os, k.tape.trans h.tape, k.output.trans h.output, Nat.le_trans h.size k.size, fun i hi hf => (k.block i (Nat.lt_of_lt_of_le hi h.size)).trans (h.block i hi hf)⟩
theorem Ex.chg {w w' : World} (h : Ex w w') (F : Nat → Prop) : Chg F w w' := ⟨h.os, h.tape, h.output, h.size, fun i hi _ => h.block i hi⟩
theorem Chg.weak {F G : Nat → Prop} {a b : World} (h : Chg F a b) (hs : ∀ i, i < a.heap.size → F i → G i) : Chg G a b :=
  ⟨h.os, h.tape, h.output, h.size, fun i hi hg => h.block i hi (fun f => hg (hs i hi f))⟩
theorem Chg.below {F : Nat → Prop} {a b : World} (h : Chg F a b) {B : Nat} (hB : B ≤ a.heap.size) (hs : ∀ i, F i → B ≤ i) : Below B a b :=
  ⟨h.os, h.tape, h.output, h.size, fun i hi => h.block i (by omega) (fun f => by have := hs i f; omega)⟩
theorem Chg.grown {F : Nat → Prop} {a b : World} {row : Option Nat} (h : a.grownBy b row) (hs : ∀ i, row = some i → F i) : Chg F a b :=
  ⟨h.os, h.tape, h.output, h.size, fun i hi hf => h.block i hi (fun e => hf (hs i e.symm))⟩
theorem Chg.cell {F : Nat → Prop} (w : World) (p : Addr) (u : Value) (hF : F p.block) : Chg F w (w.setCell p u) :=
  ⟨rfl, rfl, rfl, by simp [World.setCell], fun i hi hf => heap_setCell_other w p i u (fun e => hf (e ▸ hF))⟩
theorem Chg.drew {F : Nat → Prop} {a b : World} (h : Chg F a b) (n : Nat) : Chg F a (b.drewN n) := h.ex (Ex.drawn b n)
theorem Chg.drew1 {F : Nat → Prop} {a b : World} (h : Chg F a b) : Chg F a b.drew := h.ex (Ex.drawn b 1)
theorem Box.chg {F : Nat → Prop} {w w' : World} {b : Nat} {cs : Array Value} {t : TypeId} (h : Box w b cs t) (k : Chg F w w') (hb : ¬ F b) : Box w' b cs t := (k.block b h.lt hb).trans h
theorem Box.put {w : World} {b : Nat} {cs : Array Value} {t : TypeId} (h : Box w b cs t) (j : Nat) (v : Value) : Box (w.setCell ⟨b, j, none⟩ v) b (cs.setIfInBounds j v) t := by
  unfold Box at *
  simp [World.setCell, Array.getElem?_modify, h]
theorem Box.put_other {w : World} {a b : Nat} {cs : Array Value} {t : TypeId} (h : Box w a cs t) (hab : a ≠ b) (j : Nat) (v : Value) : Box (w.setCell ⟨b, j, none⟩ v) a cs t := by
  unfold Box at *
  simp [World.setCell, Array.getElem?_modify, h, Ne.symm hab]
theorem Box.row {w : World} {b : Nat} {cs ds : Array Value} {t : TypeId} (h : Box w b cs t) : Box (w.setRow b ds) b ds t := setRow_heap w b cs ds t (0, 0) h
theorem Box.drew {w : World} {b : Nat} {cs : Array Value} {t : TypeId} (h : Box w b cs t) (n : Nat) : Box (w.drewN n) b cs t := h

theorem row_chg {F : Nat → Prop} {w w' : World} {base : Nat} {e : TypeId} {size : Nat} {v : Value} {n : Nat} {xs : List Value} (h : w.ownsRow base e size v n xs) (k : Chg F w w') (hF : ∀ g, v.ownBlock = some g → ¬ F g) :
    w'.ownsRow base e size v n xs := by
  refine ⟨h.1, ?_⟩
  rcases h.2 with ⟨h1, h2⟩ | ⟨g, cap, cur, rfl, h2, h3, h4⟩
  · exact .inl ⟨h1, h2⟩
  · refine .inr ⟨g, cap, cur, rfl, h2, ?_, h4⟩
    have hlt := (Array.getElem?_eq_some_iff.1 h3).1
    exact (k.block g hlt (hF g rfl)).trans h3

/-- A row's shape. -/
theorem row_shape {w : World} {base : Nat} {e : TypeId} {size : Nat} {v : Value} {n : Nat} {xs : List Value} (h : w.ownsRow base e size v n xs) :
    (v = .slice none 0 0 ∧ n = 0 ∧ xs = []) ∨ ∃ g cap, v = .slice (some ⟨g, 0, none⟩) n cap ∧ base ≤ g ∧ g < w.heap.size ∧ n ≤ cap ∧ cap ≤ maxLen := by
  rcases h.2 with ⟨h1, h2⟩ | ⟨g, cap, cur, rfl, h2, h3, h4, h5, _⟩
  · refine .inl ⟨h1, h2, ?_⟩
    have := h.1
    rw [h2, Nat.zero_mul] at this
    exact List.eq_nil_of_length_eq_zero this
  · exact .inr ⟨g, cap, rfl, h2, (Array.getElem?_eq_some_iff.1 h3).1, h4, h5⟩

end Go.Proofs.YtmlobpapjfkbmaaGreat

/- append onto a row of the call's own: where the new row lies. -/
namespace Go.Proofs.YtmlobpapjfkbmaaGreat
open Go.RowKit
set_option linter.unusedVariables false
set_option maxRecDepth 20000

theorem wpList_append_mine {P : Program} (w : World) {ops : Array Oper} {rest : List Oper} {o : Oper} {a : Act} {Q : Exit → Act → World → Prop} (hgd : o.guard = none) (s x : Operand) (t : TypeId)
    (ho : o.op = .call { callee := .builtin .append, args := #[s, x], argTypes := #[t, t] })
    (base : Nat) (e : TypeId) (i : TypeInfo) (z : Value) (size bytes : Nat) (ht : P.underlying t = some (.slice e)) (hi : P.info? e = some i) (hz : i.zero = some z)
    (hsize : i.size = size) (hby : i.bytes = bytes) (hzs : z.cells.size = size) (hsz : 0 < size)
    (v : Value) (n : Nat) (xs : List Value) (hs : a.eval s = v) (hown : w.ownsRow base e size v n xs)
    (ad : Addr) (m c : Nat) (news : List Value) (hx : a.eval x = .slice (some ad) m c) (hl : news.length = m * size) (hnews : ∀ j u, news[j]? = some u → w.cell? (ad.add j) = some u) (h1 : ∀ u ∈ news, u.oneCell' = true)
    (h63 : n + m ≤ maxLen) (hbytes : (n + m) * bytes ≤ 140737488355328) (hbase : base ≤ w.heap.size) (hm : 0 < m)
    (h : ∀ g cap w', w'.ownsRow base e size (.slice (some ⟨g, 0, none⟩) (n + m) cap) (n + m) (xs ++ news) → w.grownBy w' v.ownBlock → (v.ownBlock = some g ∨ w.heap.size ≤ g) → base ≤ g → g < w'.heap.size → n + m ≤ cap → cap ≤ maxLen →
      wpList P ops Q rest (a.put o.dst (.slice (some ⟨g, 0, none⟩) (n + m) cap)) w') : wpList P ops Q (o :: rest) a w := by
  have grow : ∀ v' w', w'.ownsRow w.heap.size e size v' (n + m) (xs ++ news) → w.grownBy w' none → wpList P ops Q rest (a.put o.dst v') w' := by
    intro v' w' hown' hg
    rcases hown'.2 with ⟨h2, h3⟩ | ⟨g, cap, cur, rfl, h2, h3, h4, h5, h6⟩
    · omega
    · refine h g cap w' ⟨hown'.1, .inr ⟨g, cap, cur, rfl, by omega, h3, h4, h5, h6⟩⟩ ⟨hg.os, hg.tape, hg.output, hg.size, fun k hk _ => hg.block k hk (by simp)⟩ (.inr h2) (by omega) (Array.getElem?_eq_some_iff.1 h3).1 h4 h5
  rcases hown.2 with ⟨rfl, rfl⟩ | ⟨g, cap, cur, rfl, h2, h3, h4, h5, h6⟩
  · have hx0 : xs = [] := List.eq_nil_of_length_eq_zero (by simpa using hown.1)
    exact wpList_append_grows w hgd s x t ho e i z size bytes ht hi hz hsize hby hzs hsz none 0 0 xs hs (fun _ => ⟨rfl, rfl⟩) (by simpa using hown.1) (fun b hb => by cases hb) ad m c news hx hl hnews h1 (by omega) h63 hbytes grow
  · by_cases hr : n + m ≤ cap
    · refine wpList_append_fits w hgd s x t ho base e i size ht hi hsize g n cap xs hs hown ad m c news hx hl hnews h1 hr ?_
      intro w' hown' hg
      have hlt : g < w.heap.size := (Array.getElem?_eq_some_iff.1 h3).1
      exact h g cap w' hown' hg (.inl rfl) h2 (by have := hg.size; omega) hr h5
    · exact wpList_append_grows w hgd s x t ho e i z size bytes ht hi hz hsize hby hzs hsz (some ⟨g, 0, none⟩) n cap xs hs (fun h => by cases h) hown.1 (fun b hb => by cases hb; exact hown.cells (g := g) rfl) ad m c news hx hl hnews h1 (by omega) h63 hbytes grow

/-- One cell, just laid. -/
theorem one_new (w : World) (x : Value) (t : TypeId) : ∀ (j : Nat) (u : Value), [x][j]? = some u → (w.alloc (.cells #[x] t)).cell? ((⟨w.heap.size, 0, none⟩ : Addr).add j) = some u := by
  intro j u hj
  match j, hj with
  | 0, hj =>
    simp at hj; subst hj
    simp [Addr.add]
theorem one_cell {x : Value} (h : x.oneCell' = true) : ∀ u ∈ [x], u.oneCell' = true := by
  intro u hu; simp at hu; rw [hu]; exact h
theorem row_alloc_base (w : World) {b : Nat} (o : Obj) (h : b ≤ w.heap.size) : b ≤ (w.alloc o).heap.size := by simp; omega

end Go.Proofs.YtmlobpapjfkbmaaGreat

