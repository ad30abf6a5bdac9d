/- FixBack: whole numbers come back; a product divided again is short of the number by less than a part for each whole of the divisor: for every three numbers. -/
import Derived.Test.YtdmoacihidligaaParts
namespace Go.Proofs.Ytdmoacihidligaa
open Go.RowKit

theorem and40 (x : Int) : bits .and .i64 x 1099511627775 = x % 1099511627776 := and_mask x 40 (by omega)

/-- A product divided again. -/
theorem back_plain {x y : Int} (hx : -1099511627776 ≤ x) (hx' : x ≤ 1099511627776) (hy : 1048576 ≤ y) (hy' : y ≤ 1099512676352) :
    -9223372036854775808 ≤ fMul x y ∧ fMul x y ≤ 9223372036854775807 ∧ fDiv (fMul x y) y ≤ x ∧ x - 1 ≤ fDiv (fMul x y) y := by
  have hm1 : -1208926972536133781553152 ≤ x * y ∧ x * y ≤ 1208926972536133781553152 := by
    have h1 := Int.mul_nonneg (show 0 ≤ 1099511627776 - x by omega) (show 0 ≤ y by omega)
    have h2 := Int.mul_nonneg (show 0 ≤ x + 1099511627776 by omega) (show 0 ≤ y by omega)
    rw [Int.sub_mul] at h1
    rw [Int.add_mul] at h2
    omega
  have e1 : fMul x y = x * y / 1048576 := by unfold fMul; exact clamp_in (by omega) (by omega)
  have p1 : x * y / 1048576 * 1048576 ≤ x * y := by omega
  have p2 : (x - 1) * y ≤ x * y / 1048576 * 1048576 := by rw [Int.sub_mul, Int.one_mul]; omega
  have q1 := Int.ediv_le_of_le_mul (show 0 < y by omega) p1
  have q2 := Int.le_ediv_of_mul_le (show 0 < y by omega) p2
  rw [e1]
  have e2 : fDiv (x * y / 1048576) y = x * y / 1048576 * 1048576 / y := by
    unfold fDiv
    rw [if_neg (by omega), floorDiv_pos (by omega), clamp_in (by omega) (by omega)]
  rw [e2]
  exact ⟨by omega, by omega, q1, q2⟩

theorem int_whole {m : Int} (h : -1099511627776 ≤ m) (h' : m ≤ 1099511627776) : fInt (fWhole m) = m := by
  unfold fInt fWhole
  rw [clamp_in (by omega) (by omega)]
  omega

set_option maxHeartbeats 400000 in
theorem walk_FixBack (n a b : Int) (w0 : (Lit.int .i64 n).wf = true) (w1 : (Lit.int .i64 a).wf = true) (w2 : (Lit.int .i64 b).wf = true) (w : World) :
    Calls Try.prog 6 #[.int .i64 n, .int .i64 a, .int .i64 b] w fun e w' => e = .returned (.bool true) ∧ Grown w w' := by
  clear w0 w1 w2
  obtain ⟨m, hm⟩ : ∃ m, n.tmod 1099511627776 = m := ⟨_, rfl⟩
  obtain ⟨x, hx⟩ : ∃ x, a.tmod 1099511627776 = x := ⟨_, rfl⟩
  obtain ⟨k, hk⟩ : ∃ k, bits .and .i64 b 1099511627775 = k := ⟨_, rfl⟩
  have m1 : -1099511627776 ≤ m := by have := Int.lt_tmod_of_pos n (show (0 : Int) < 1099511627776 by omega); omega
  have m2 : m ≤ 1099511627776 := by have := Int.tmod_lt_of_pos n (show (0 : Int) < 1099511627776 by omega); omega
  have x1 : -1099511627776 ≤ x := by have := Int.lt_tmod_of_pos a (show (0 : Int) < 1099511627776 by omega); omega
  have x2 : x ≤ 1099511627776 := by have := Int.tmod_lt_of_pos a (show (0 : Int) < 1099511627776 by omega); omega
  have k1 : 0 ≤ k := by rw [and40] at hk; omega
  have k2 : k < 1099511627776 := by rw [and40] at hk; omega
  obtain ⟨y, hy⟩ : ∃ y, 1048576 + k = y := ⟨_, rfl⟩
  have y1 : 1048576 ≤ y := by omega
  have y2 : y ≤ 1099512676352 := by omega
  obtain ⟨p1, p2, p3, p4⟩ := back_plain x1 x2 y1 y2
  obtain ⟨p, hp⟩ : ∃ p, fMul x y = p := ⟨_, rfl⟩
  obtain ⟨q, hq⟩ : ∃ q, fDiv (fMul x y) y = q := ⟨_, rfl⟩
  rw [hq] at p3 p4
  rw [hp] at p1 p2 hq
  have Hp := Lib.hid hp
  have Hq := Lib.hid hq
  have p5 : x - 2 ≤ q := by omega
  have hi := int_whole m1 m2
  obtain ⟨wm, hwm⟩ : ∃ wm, fWhole m = wm := ⟨_, rfl⟩
  rw [hwm] at hi
  have Hwm := Lib.hid hwm
  have Hi := Lib.hid hi
  clear hp hq hwm hi
  go_enter Try.func6, Try.ntmps6
  go_wp2_with fail
  refine (fMul_any x y _ (by omega) (by omega) (by omega) (by omega)).mono ?_
  rintro e w' ⟨rfl, rfl⟩
  rw [Hp.out]
  go_wp2_with fail
  refine (fDiv_any p y _ (by omega) (by omega) (by omega) (by omega)).mono ?_
  rintro e w1 ⟨rfl, hw1⟩
  rw [Hq.out]
  have Hw1 := Lib.hid hw1
  clear hw1
  go_wp2_with fail
  refine (told_any _).mono ?_
  rintro e w2 ⟨rfl, hw2⟩
  have Hw2 := Lib.hid hw2
  clear hw2
  go_wp2_with fail
  refine (fWhole_any m _ (by omega) (by omega)).mono ?_
  rintro e w' ⟨rfl, rfl⟩
  rw [Hwm.out]
  go_wp2_with fail
  refine (fInt_any wm _).mono ?_
  rintro e w' ⟨rfl, rfl⟩
  rw [Hi.out]
  go_wp2_with fail
  go_ret
  exact ⟨rfl, (Hw1.out.trans Hw2.out).grown⟩

end Go.Proofs.Ytdmoacihidligaa
