/- The document's own answer for sums, differences, products, quotients: their contracts. -/
import Derived.Test.YtdmoacihidligaaFixD
namespace Go.Proofs.Ytdmoacihidligaa
open Go.RowKit

set_option maxHeartbeats 400000 in
theorem rSize_any (a : Int) (w : World) (h1 : -9223372036854775808 ≤ a) (h2 : a ≤ 9223372036854775807) :
    Calls Try.prog 35 #[.int .i64 a] w fun e w' => e = .returned (.int .u64 (a.natAbs : Int)) ∧ w = w' := by
  by_cases h : a < 0
  · go_enter Try.func35, Try.ntmps35
    go_wp2
    go_ret
    exact ⟨ret_int (by first | omega | (simp only [IntKind.wrap_u64]; omega)), rfl⟩
  · go_enter Try.func35, Try.ntmps35
    go_wp2
    go_ret
    exact ⟨ret_int (by omega), rfl⟩

set_option maxHeartbeats 400000 in
theorem signed_x (hi lo : Nat) (more : Bool) (w : World) (h1 : hi < 18446744073709551615) (h2 : lo < 18446744073709551616) :
    Calls Try.prog 36 #[.bool false, .int .u64 hi, .int .u64 lo, .bool more] w fun e w' => e = .returned (.int .i64 (madeV (hi * 18446744073709551616 + lo) false more)) ∧ w = w' := by
  by_cases c1 : 0 < hi
  · go_enter Try.func36, Try.ntmps36
    go_wp2
    go_ret
    exact ⟨ret_int (by rw [madeV_pos, clamp_above (by omega)]), rfl⟩
  · obtain rfl : hi = 0 := by omega
    by_cases c2 : 9223372036854775807 < lo
    · go_enter Try.func36, Try.ntmps36
      go_wp2
      go_ret
      exact ⟨ret_int (by rw [madeV_pos, clamp_above (by omega)]), rfl⟩
    · go_enter Try.func36, Try.ntmps36
      go_wp2
      go_ret
      exact ⟨ret_int (by rw [madeV_pos, clamp_in (by omega) (by omega)]; omega), rfl⟩

set_option maxHeartbeats 400000 in
theorem signed_f (hi lo : Nat) (w : World) (h1 : hi < 18446744073709551615) (h2 : lo < 18446744073709551616) :
    Calls Try.prog 36 #[.bool true, .int .u64 hi, .int .u64 lo, .bool false] w fun e w' => e = .returned (.int .i64 (madeV (hi * 18446744073709551616 + lo) true false)) ∧ w = w' := by
  by_cases c1 : 0 < hi
  · go_enter Try.func36, Try.ntmps36
    go_wp2
    go_ret
    exact ⟨ret_int (by rw [madeV_neg, clamp_below (by simp only [Bool.toNat_false]; omega)]), rfl⟩
  · obtain rfl : hi = 0 := by omega
    by_cases c2 : 9223372036854775808 < lo
    · go_enter Try.func36, Try.ntmps36
      go_wp2
      go_ret
      exact ⟨ret_int (by rw [madeV_neg, clamp_below (by simp only [Bool.toNat_false]; omega)]), rfl⟩
    · go_enter Try.func36, Try.ntmps36
      go_wp2
      go_ret
      exact ⟨ret_int (by rw [madeV_neg, clamp_in (by simp only [Bool.toNat_false]; omega) (by omega)]; simp only [IntKind.wrap_u64, wrap64, Bool.toNat_false]; omega), rfl⟩

set_option maxHeartbeats 400000 in
theorem signed_t (hi lo : Nat) (w : World) (h1 : hi < 18446744073709551615) (h2 : lo < 18446744073709551616) :
    Calls Try.prog 36 #[.bool true, .int .u64 hi, .int .u64 lo, .bool true] w fun e w' => e = .returned (.int .i64 (madeV (hi * 18446744073709551616 + lo) true true)) ∧ w = w' := by
  obtain ⟨m, hm⟩ : ∃ m, m = (lo + 1) % 18446744073709551616 := ⟨_, rfl⟩
  have e1 : IntKind.u64.wrap ((lo : Int) + 1) = (m : Int) := by rw [IntKind.wrap_u64]; omega
  have Hm := Lib.hid hm
  by_cases c0 : m = 0
  · have c0' : ((m : Int) == 0) = true := by simp; omega
    clear c0 hm
    go_enter Try.func36, Try.ntmps36
    go_wp2
    go_ret
    have hm := Hm.out
    have c1 : m = 0 := by simpa using c0'
    exact ⟨ret_int (by rw [madeV_neg, clamp_below (by simp only [Bool.toNat_true]; omega)]), rfl⟩
  · have c0' : ((m : Int) == 0) = false := by simp; omega
    by_cases c1 : 0 < hi
    · clear hm c0
      go_enter Try.func36, Try.ntmps36
      go_wp2
      go_ret
      exact ⟨ret_int (by rw [madeV_neg, clamp_below (by simp only [Bool.toNat_true]; omega)]), rfl⟩
    · obtain rfl : hi = 0 := by omega
      by_cases c2 : 9223372036854775808 < m
      · clear hm c0 c1
        go_enter Try.func36, Try.ntmps36
        go_wp2
        go_ret
        have hm := Hm.out
        exact ⟨ret_int (by rw [madeV_neg, clamp_below (by simp only [Bool.toNat_true]; omega)]), rfl⟩
      · have m1 : 1 ≤ m := by omega
        clear hm c0 c1
        go_enter Try.func36, Try.ntmps36
        go_wp2
        go_ret
        have hm := Hm.out
        exact ⟨ret_int (by rw [madeV_neg, clamp_in (by simp only [Bool.toNat_true]; omega) (by omega)]; simp only [Bool.toNat_true]; omega), rfl⟩

theorem signed_any (hi lo : Nat) (below more : Bool) (w : World) (h1 : hi < 18446744073709551615) (h2 : lo < 18446744073709551616) :
    Calls Try.prog 36 #[.bool below, .int .u64 hi, .int .u64 lo, .bool more] w fun e w' => e = .returned (.int .i64 (madeV (hi * 18446744073709551616 + lo) below more)) ∧ w = w' := by
  cases below
  · exact signed_x hi lo more w h1 h2
  · cases more
    · exact signed_f hi lo w h1 h2
    · exact signed_t hi lo w h1 h2

set_option maxHeartbeats 400000 in
theorem rMul_any (a b : Int) (w : World) (a1 : -9223372036854775808 ≤ a) (a2 : a ≤ 9223372036854775807) (b1 : -9223372036854775808 ≤ b) (b2 : b ≤ 9223372036854775807) :
    Calls Try.prog 27 #[.int .i64 a, .int .i64 b] w fun e w' => e = .returned (.int .i64 (fMul a b)) ∧ w = w' := by
  obtain ⟨hi, hhi⟩ : ∃ hi, a.natAbs * b.natAbs / 18446744073709551616 = hi := ⟨_, rfl⟩
  obtain ⟨lo, hlo⟩ : ∃ lo, a.natAbs * b.natAbs % 18446744073709551616 = lo := ⟨_, rfl⟩
  have hp : a.natAbs * b.natAbs = hi * 18446744073709551616 + lo := by omega
  have hlo' : lo < 18446744073709551616 := by omega
  have hle : a.natAbs * b.natAbs ≤ 9223372036854775808 * 9223372036854775808 := Nat.mul_le_mul (by omega) (by omega)
  have hhi' : hi < 18446744073709551616 := by omega
  have Hp := Lib.hid hp
  clear hp hhi hlo hle
  by_cases h0 : hi = 0 ∧ lo = 0
  · obtain ⟨rfl, rfl⟩ := h0
    go_enter Try.func27, Try.ntmps27
    go_wp2_with fail
    refine (rSize_any a _ a1 a2).mono ?_
    rintro e w' ⟨rfl, rfl⟩
    go_wp2_with fail
    refine (rSize_any b _ b1 b2).mono ?_
    rintro e w' ⟨rfl, rfl⟩
    go_wp2_with fail
    refine (mul64_any a.natAbs b.natAbs 0 0 _ (by omega) (by omega) Hp.out hlo').mono ?_
    rintro e w' ⟨rfl, rfl⟩
    go_wp2_with fail
    go_ret
    refine ⟨ret_int ?_, rfl⟩
    have hp := Hp.out
    have hm := mul_made a b
    rw [hp] at hm
    rw [← hm]
    cases (decide (a < 0) != decide (b < 0)) <;> rfl
  · have hz : ((hi : Int) == 0) = false ∨ (((hi : Int) == 0) = true ∧ ((lo : Int) == 0) = false) := by
      by_cases g : hi = 0
      · exact .inr ⟨by simp [g], by simp; omega⟩
      · exact .inl (by simp; omega)
    clear h0
    rcases hz with hz | ⟨hz, hz2⟩
    all_goals
      go_enter Try.func27, Try.ntmps27
      go_wp2_with fail
      refine (rSize_any a _ a1 a2).mono ?_
      rintro e w' ⟨rfl, rfl⟩
      go_wp2_with fail
      refine (rSize_any b _ b1 b2).mono ?_
      rintro e w' ⟨rfl, rfl⟩
      go_wp2_with fail
      refine (mul64_any a.natAbs b.natAbs hi lo _ (by omega) (by omega) Hp.out hlo').mono ?_
      rintro e w' ⟨rfl, rfl⟩
      go_wp2_with fail
      have e1 : (hi : Int) / 1048576 = ((hi / 1048576 : Nat) : Int) := by omega
      rw [e1, mul_or hi lo hlo', and_low lo hlo', and_bool]
      clear e1
      refine (signed_any (hi / 1048576) ((hi * 18446744073709551616 + lo) / 1048576 % 18446744073709551616) (decide (a < 0) != decide (b < 0)) (decide (lo % 1048576 ≠ 0)) _ (by omega) (by omega)).mono ?_
      rintro e w' ⟨rfl, rfl⟩
      go_wp2_with fail
      go_ret
      refine ⟨ret_int ?_, rfl⟩
      have hp := Hp.out
      have e2 : hi / 1048576 * 18446744073709551616 + (hi * 18446744073709551616 + lo) / 1048576 % 18446744073709551616 = a.natAbs * b.natAbs / 1048576 := by rw [hp]; omega
      have e3 : lo % 1048576 = a.natAbs * b.natAbs % 1048576 := by rw [hp]; omega
      rw [e2, e3]
      have h := mul_made a b
      simp only [ne_eq, decide_not] at h
      exact h

set_option maxHeartbeats 400000 in
theorem rDiv_zero (a b : Int) (w : World) (h : a = 0 ∨ b = 0) :
    Calls Try.prog 28 #[.int .i64 a, .int .i64 b] w fun e w' => e = .returned (.int .i64 (fDiv a b)) ∧ Dr w w' := by
  by_cases ha : a = 0
  · subst ha
    go_enter Try.func28, Try.ntmps28
    go_wp2
    go_ret
    refine ⟨ret_int ?_, Dr.refl _⟩
    unfold fDiv floorDiv
    by_cases hb : b = 0
    · rw [if_pos hb]; rfl
    · rw [if_neg hb]
      by_cases hb2 : 0 < b
      · rw [if_pos hb2, Int.zero_mul, Int.zero_ediv]; rfl
      · rw [if_neg hb2, Int.zero_mul, Int.neg_zero, Int.zero_ediv]; rfl
  · obtain rfl : b = 0 := by omega
    have ha0 : (a == 0) = false := by simpa using ha
    by_cases h1 : 0 < a
    · go_enter Try.func28, Try.ntmps28
      go_wp2
      go_ret
      exact ⟨ret_int (by unfold fDiv; rw [if_pos rfl, if_pos h1]; rfl), Dr.refl _⟩
    · go_enter Try.func28, Try.ntmps28
      go_wp2
      go_ret
      exact ⟨ret_int (by unfold fDiv; rw [if_pos rfl, if_neg (by omega), if_pos (by omega)]; rfl), Dr.refl _⟩

set_option maxHeartbeats 1000000 in
theorem rDiv_pos (a b : Int) (x d h l top m q r : Nat) (w : World) (a1 : -9223372036854775808 ≤ a) (a2 : a ≤ 9223372036854775807) (b1 : -9223372036854775808 ≤ b) (b2 : b ≤ 9223372036854775807) (ha : (a == 0) = false) (hb : (b == 0) = false)
    (hx : Hid (x = a.natAbs)) (hd : Hid (d = b.natAbs)) (hd0 : 0 < d) (hd1 : d ≤ 9223372036854775808) (hm : m < d) (hl : l < 18446744073709551616)
    (g1 : (x : Int) / 17592186044416 = (h : Int)) (g2 : IntKind.u64.wrap ((x : Int) * 1048576) = (l : Int)) (g3 : IntKind.u64.wrap ((h : Int) / (d : Int)) = (top : Int)) (g4 : (h : Int) % (d : Int) = (m : Int))
    (hq : Hid (q = (m * 18446744073709551616 + l) / d)) (hr : Hid (r = (m * 18446744073709551616 + l) % d)) (htop : top < 1048576) (hq2 : q < 18446744073709551616) :
    Calls Try.prog 28 #[.int .i64 a, .int .i64 b] w fun e w' => e = .returned (.int .i64 (madeV (top * 18446744073709551616 + q) (decide (a < 0) != decide (b < 0)) (decide (r ≠ 0)))) ∧ Dr w w' := by
  go_enter Try.func28, Try.ntmps28
  go_wp2_with fail
  refine (rSize_any a _ a1 a2).mono ?_
  rintro e w' ⟨rfl, rfl⟩
  rw [← hx.out]
  go_wp2_with fail
  refine (rSize_any b _ b1 b2).mono ?_
  rintro e w' ⟨rfl, rfl⟩
  rw [← hd.out]
  go_wp2_with fail
  refine (div64_any m l d q r _ hm hl (by omega) hq.out hr.out).mono ?_
  rintro e w' ⟨rfl, hw⟩
  have Hw := Lib.hid hw
  clear hw
  go_wp2_with fail
  rw [and_bool]
  refine (signed_any top q (decide (a < 0) != decide (b < 0)) (decide (r ≠ 0)) _ (by omega) hq2).mono ?_
  rintro e w' ⟨rfl, rfl⟩
  go_wp2_with fail
  go_ret
  exact ⟨ret_int (by simp), Hw.out⟩

theorem rDiv_any (a b : Int) (w : World) (a1 : -9223372036854775808 ≤ a) (a2 : a ≤ 9223372036854775807) (b1 : -9223372036854775808 ≤ b) (b2 : b ≤ 9223372036854775807) :
    Calls Try.prog 28 #[.int .i64 a, .int .i64 b] w fun e w' => e = .returned (.int .i64 (fDiv a b)) ∧ Dr w w' := by
  by_cases h0 : a = 0 ∨ b = 0
  · exact rDiv_zero a b w h0
  · have ha : a ≠ 0 := fun h => h0 (.inl h)
    have hb : b ≠ 0 := fun h => h0 (.inr h)
    have hd : 0 < b.natAbs := by omega
    obtain ⟨s1, s2⟩ := split2 a.natAbs b.natAbs hd
    have hm := Nat.mod_lt (a.natAbs / 17592186044416) hd
    have hl : a.natAbs * 1048576 % 18446744073709551616 < 18446744073709551616 := by omega
    have hq : (a.natAbs / 17592186044416 % b.natAbs * 18446744073709551616 + a.natAbs * 1048576 % 18446744073709551616) / b.natAbs < 18446744073709551616 := by
      exact digit64 hm hl
    have htop : a.natAbs / 17592186044416 / b.natAbs < 1048576 := by
      exact Nat.lt_of_le_of_lt (Nat.div_le_self _ _) (by omega)
    have main := rDiv_pos a b a.natAbs b.natAbs _ _ _ _ _ _ w a1 a2 b1 b2 (by simpa using ha) (by simpa using hb) (Lib.hid rfl) (Lib.hid rfl) hd (by omega) hm hl
      (by omega) (by rw [IntKind.wrap_u64]; omega) (quo_wrap (by omega)) (Int.natCast_emod _ _).symm (Lib.hid rfl) (Lib.hid rfl) htop hq
    rw [← s1, ← s2, div_made a b hb] at main
    exact main

set_option maxHeartbeats 400000 in
theorem rWhole_any (n : Int) (w : World) (n1 : -9223372036854775808 ≤ n) (n2 : n ≤ 9223372036854775807) :
    Calls Try.prog 15 #[.int .i64 n] w fun e w' => e = .returned (.int .i64 (fWhole n)) ∧ w = w' := by
  by_cases c1 : 8796093022208 ≤ n
  · go_enter Try.func15, Try.ntmps15
    go_wp2
    go_ret
    exact ⟨ret_int (clamp_above (by omega)).symm, rfl⟩
  · by_cases c2 : n < -8796093022208
    · go_enter Try.func15, Try.ntmps15
      go_wp2
      go_ret
      exact ⟨ret_int (clamp_below (by omega)).symm, rfl⟩
    · go_enter Try.func15, Try.ntmps15
      go_wp2
      go_ret
      exact ⟨ret_int (clamp_in (by omega) (by omega)).symm, rfl⟩

end Go.Proofs.Ytdmoacihidligaa
