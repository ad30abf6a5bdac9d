/- Quotients of package fix: their contract. -/
import Derived.Test.YtomegcicfpmefaaFixC
namespace Go.Proofs.Ytomegcicfpmefaa
open Go.RowKit
set_option linter.unusedVariables false

theorem split_gen {X h l M d : Nat} (e : X = h * M + l) (hd : 0 < d) : X / d = h / d * M + (h % d * M + l) / d ∧ X % d = (h % d * M + l) % d := by
  have h1 := Nat.div_add_mod h d
  have e2 : X = (h % d * M + l) + d * (h / d * M) := by
    rw [← Nat.mul_assoc, e]
    have h2 : (d * (h / d) + h % d) * M = h * M := by rw [h1]
    rw [Nat.add_mul] at h2
    omega
  have k1 := Nat.add_mul_div_left (h % d * M + l) (h / d * M) hd
  have k2 := Nat.add_mul_mod_self_left (h % d * M + l) d (h / d * M)
  rw [← e2] at k1 k2
  exact ⟨by omega, k2⟩

theorem split2 (x d : Nat) (hd : 0 < d) : (x * 1048576) / d = x / 17592186044416 / d * 18446744073709551616 + (x / 17592186044416 % d * 18446744073709551616 + x * 1048576 % 18446744073709551616) / d ∧
    (x * 1048576) % d = (x / 17592186044416 % d * 18446744073709551616 + x * 1048576 % 18446744073709551616) % d :=
  split_gen (by omega) hd

theorem digit64 {m l d : Nat} (hm : m < d) (hl : l < 18446744073709551616) : (m * 18446744073709551616 + l) / d < 18446744073709551616 := by
  rw [Nat.div_lt_iff_lt_mul (by omega)]
  omega

set_option maxHeartbeats 400000 in
theorem fDiv_zero (a : Int) (w : World) (a1 : -9223372036854775808 ≤ a) (a2 : a ≤ 9223372036854775807) :
    Calls Try.prog 11 #[.int .i64 a, .int .i64 0] w fun e w' => e = .returned (.int .i64 (fDiv a 0)) ∧ Dr w w' := by
  by_cases h1 : 0 < a
  · go_enter Try.func11, Try.ntmps11
    go_wp2
    go_ret
    exact ⟨ret_int (by simp [fDiv, h1]; rfl), Dr.refl _⟩
  · by_cases h2 : a < 0
    · go_enter Try.func11, Try.ntmps11
      go_wp2
      go_ret
      exact ⟨ret_int (by unfold fDiv; rw [if_pos rfl, if_neg (by omega), if_pos h2]; rfl), Dr.refl _⟩
    · go_enter Try.func11, Try.ntmps11
      go_wp2
      go_ret
      exact ⟨ret_int (by unfold fDiv; rw [if_pos rfl, if_neg (by omega), if_neg (by omega)]), Dr.refl _⟩

set_option maxHeartbeats 1000000 in
theorem fDiv_pos (a b : Int) (x d h l top m q r : Nat) (w : World) (a1 : -9223372036854775808 ≤ a) (a2 : a ≤ 9223372036854775807) (b1 : -9223372036854775808 ≤ b) (b2 : b ≤ 9223372036854775807) (hb : (b == 0) = false)
    (hx : Hid (x = a.natAbs)) (hd : Hid (d = b.natAbs)) (hd0 : 0 < d) (hd1 : d ≤ 9223372036854775808) (hm : m < d) (hl : l < 18446744073709551616)
    (g1 : (x : Int) / 17592186044416 = (h : Int)) (g2 : IntKind.u64.wrap ((x : Int) * 1048576) = (l : Int)) (g3 : IntKind.u64.wrap ((h : Int) / (d : Int)) = (top : Int)) (g4 : (h : Int) % (d : Int) = (m : Int))
    (hq : Hid (q = (m * 18446744073709551616 + l) / d)) (hr : Hid (r = (m * 18446744073709551616 + l) % d)) (htop : top < 1048576) (hq2 : q < 18446744073709551616) :
    Calls Try.prog 11 #[.int .i64 a, .int .i64 b] w fun e w' => e = .returned (.int .i64 (madeV (top * 18446744073709551616 + q) (decide (a < 0) != decide (b < 0)) (decide (r ≠ 0)))) ∧ Dr w w' := by
  go_enter Try.func11, Try.ntmps11
  go_wp2_with fail
  refine (size_any a _ a1 a2).mono ?_
  rintro e w' ⟨rfl, rfl⟩
  rw [← hx.out]
  go_wp2_with fail
  refine (size_any b _ b1 b2).mono ?_
  rintro e w' ⟨rfl, rfl⟩
  rw [← hd.out]
  go_wp2_with fail
  refine (div64_any m l d q r _ hm hl (by omega) hq.out hr.out).mono ?_
  rintro e w' ⟨rfl, hw⟩
  have Hw := Lib.hid hw
  clear hw
  go_wp2_with fail
  rw [and_bool]
  refine (made_any top q (decide (a < 0) != decide (b < 0)) (decide (r ≠ 0)) _ (by omega) hq2).mono ?_
  rintro e w' ⟨rfl, rfl⟩
  go_wp2_with fail
  go_ret
  exact ⟨ret_int (by simp), Hw.out⟩

theorem fDiv_any (a b : Int) (w : World) (a1 : -9223372036854775808 ≤ a) (a2 : a ≤ 9223372036854775807) (b1 : -9223372036854775808 ≤ b) (b2 : b ≤ 9223372036854775807) :
    Calls Try.prog 11 #[.int .i64 a, .int .i64 b] w fun e w' => e = .returned (.int .i64 (fDiv a b)) ∧ Dr w w' := by
  by_cases hb : b = 0
  · subst hb
    exact fDiv_zero a w a1 a2
  · have hd : 0 < b.natAbs := by omega
    obtain ⟨s1, s2⟩ := split2 a.natAbs b.natAbs hd
    have hm := Nat.mod_lt (a.natAbs / 17592186044416) hd
    have hl : a.natAbs * 1048576 % 18446744073709551616 < 18446744073709551616 := by omega
    have hq : (a.natAbs / 17592186044416 % b.natAbs * 18446744073709551616 + a.natAbs * 1048576 % 18446744073709551616) / b.natAbs < 18446744073709551616 := by
      exact digit64 hm hl
    have htop : a.natAbs / 17592186044416 / b.natAbs < 1048576 := by
      exact Nat.lt_of_le_of_lt (Nat.div_le_self _ _) (by omega)
    have main := fDiv_pos a b a.natAbs b.natAbs _ _ _ _ _ _ w a1 a2 b1 b2 (by simpa using hb) (Lib.hid rfl) (Lib.hid rfl) hd (by omega) hm hl
      (by omega) (by rw [IntKind.wrap_u64]; omega) (quo_wrap (by omega)) (Int.natCast_emod _ _).symm (Lib.hid rfl) (Lib.hid rfl) htop hq
    rw [← s1, ← s2, div_made a b hb] at main
    exact main

end Go.Proofs.Ytomegcicfpmefaa
