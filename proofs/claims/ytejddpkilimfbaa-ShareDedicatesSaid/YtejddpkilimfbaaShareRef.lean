/- The document's own answer for who works for the collector; the law's own few examples. -/
import Derived.Test.YtejddpkilimfbaaShare
namespace Go.Proofs.Ytejddpkilimfbaa
open Go.RowKit
set_option linter.unusedVariables false

theorem clamp17_any (x lo hi : Int) (w : World) (h : lo ≤ hi) :
    Calls Try.prog 17 #[.int .i64 x, .int .i64 lo, .int .i64 hi] w fun e w' => e = .returned (.int .i64 (bnd lo hi x)) ∧ w = w' := by
  have e1 : max lo (min x hi) = bnd lo hi x := by unfold bnd; omega
  go_enter Try.func17, Try.ntmps17
  go_wp2
  go_ret
  exact ⟨rfl, rfl⟩

theorem rw_rdiv {a b c : Int} {w : World} (h : Hid (fDiv a b = c)) (a1 : -9223372036854775808 ≤ a) (a2 : a ≤ 9223372036854775807) (b1 : -9223372036854775808 ≤ b) (b2 : b ≤ 9223372036854775807) :
    Calls Try.prog 18 #[.int .i64 a, .int .i64 b] w fun e w' => e = .returned (.int .i64 c) ∧ Dr w w' := by
  have k := rDiv_any a b w a1 a2 b1 b2
  rw [h.out] at k
  exact k
theorem rw_rmul {a b c : Int} {w : World} (h : Hid (fMul a b = c)) (a1 : -9223372036854775808 ≤ a) (a2 : a ≤ 9223372036854775807) (b1 : -9223372036854775808 ≤ b) (b2 : b ≤ 9223372036854775807) :
    Calls Try.prog 22 #[.int .i64 a, .int .i64 b] w fun e w' => e = .returned (.int .i64 c) ∧ w = w' := by
  have k := rMul_any a b w a1 a2 b1 b2
  rw [h.out] at k
  exact k
theorem rw_rwhole {a c : Int} {w : World} (h : Hid (fWhole a = c)) (a1 : -9223372036854775808 ≤ a) (a2 : a ≤ 9223372036854775807) :
    Calls Try.prog 19 #[.int .i64 a] w fun e w' => e = .returned (.int .i64 c) ∧ w = w' := by
  have k := rWhole_any a w a1 a2
  rw [h.out] at k
  exact k

set_option maxHeartbeats 400000 in
theorem rworkers_walk (ps part n p all k r a l nn : Int) (w : World) (hn : Hid (bnd 1 64 ps = n)) (hp : Hid (bnd 0 1048576 part = p)) (n1 : 1 ≤ n) (n2 : n ≤ 64)
    (e1 : n * p = all) (all1 : 0 ≤ all) (all2 : all ≤ 67108864) (e2 : all / 1048576 = k) (k1 : 0 ≤ k) (k2 : k ≤ 64) (e3 : k * 1048576 = a) (e4 : all - a = r) (r1 : 0 ≤ r) (r2 : r < 1048576) (a1 : 0 ≤ a) (a2 : a ≤ 67108864)
    (e5 : Hid (fWhole n = nn)) (nn1 : 1 ≤ nn) (nn2 : nn ≤ 67108864) (e6 : Hid (fDiv r nn = l)) :
    Calls Try.prog 8 #[.int .i64 ps, .int .i64 part] w fun e w' => e = .returned (.tuple #[.int .i64 k, .int .i64 l]) ∧ Dr w w' := by
  go_enter Try.func8, Try.ntmps8
  go_wp2_with fail
  refine (clamp17_any ps 1 64 _ (by omega)).mono ?_
  rintro e w' ⟨rfl, rfl⟩
  rw [hn.out]
  go_wp2_with fail
  refine (clamp17_any part 0 1048576 _ (by omega)).mono ?_
  rintro e w' ⟨rfl, rfl⟩
  rw [hp.out]
  go_wp2_with fail
  refine (rw_rwhole e5 (by omega) (by omega)).mono ?_
  rintro e w' ⟨rfl, rfl⟩
  go_wp2_with fail
  refine (rw_rdiv e6 (by omega) (by omega) (by omega) (by omega)).mono ?_
  rintro e w1 ⟨rfl, hw⟩
  have Hw := Lib.hid hw
  clear hw
  go_wp2_with fail
  go_ret2
  exact ⟨rfl, Hw.out⟩

theorem rworkers_any (ps part : Int) (w : World) :
    Calls Try.prog 8 #[.int .i64 ps, .int .i64 part] w fun e w' => e = .returned (.tuple #[.int .i64 (wk ps part), .int .i64 (wl ps part)]) ∧ Dr w w' := by
  obtain ⟨n1, n2⟩ := bnd_le 1 64 ps (by omega)
  obtain ⟨p1, p2⟩ := bnd_le 0 1048576 part (by omega)
  obtain ⟨q1, q2⟩ := all_bd _ _ n1 n2 p1 p2
  obtain ⟨k1, k2, k3, k4⟩ := workers_plain _ _ n1 n2 q1 q2
  unfold wk wl
  generalize hn : bnd 1 64 ps = n at *
  generalize hp : bnd 0 1048576 part = p at *
  generalize hall : n * p = all at *
  exact rworkers_walk ps part n p all (all / 1048576) (all % 1048576) (all / 1048576 * 1048576) (all % 1048576 / n) (n * 1048576) w (Lib.hid hn) (Lib.hid hp) n1 n2 hall q1 (by omega) rfl (by omega) (by omega) rfl
    (by omega) (by omega) (by omega) (by omega) (by omega) (Lib.hid k3) (by omega) (by omega) (Lib.hid k4)

set_option maxHeartbeats 400000 in
theorem rmay_walk (worked all part u v uw vw m : Int) (b : Bool) (w : World) (hu : Hid (bnd 0 1099511627776 worked = u)) (hv : Hid (bnd 0 1099511627776 all = v)) (u1 : 0 ≤ u) (u2 : u ≤ 1099511627776) (v1 : 0 ≤ v) (v2 : v ≤ 1099511627776)
    (e1 : Hid (fWhole (v + 1) = vw)) (vw1 : 0 ≤ vw) (vw2 : vw ≤ 1152922604118474752) (e2 : Hid (fWhole (u + 1) = uw)) (p1 : -9223372036854775808 ≤ part) (p2 : part ≤ 9223372036854775807)
    (e3 : Hid (fMul vw part = m)) (hb : decide (uw ≤ m) = b) :
    Calls Try.prog 12 #[.int .i64 worked, .int .i64 all, .int .i64 part] w fun e w' => e = .returned (.bool b) ∧ w = w' := by
  go_enter Try.func12, Try.ntmps12
  go_wp2_with fail
  refine (clamp17_any worked 0 1099511627776 _ (by omega)).mono ?_
  rintro e w' ⟨rfl, rfl⟩
  rw [hu.out]
  go_wp2_with fail
  refine (clamp17_any all 0 1099511627776 _ (by omega)).mono ?_
  rintro e w' ⟨rfl, rfl⟩
  rw [hv.out]
  go_wp2_with fail
  refine (rw_rwhole e1 (by omega) (by omega)).mono ?_
  rintro e w' ⟨rfl, rfl⟩
  go_wp2_with fail
  refine (rw_rmul e3 (by omega) (by omega) p1 p2).mono ?_
  rintro e w' ⟨rfl, rfl⟩
  go_wp2_with fail
  refine (rw_rwhole e2 (by omega) (by omega)).mono ?_
  rintro e w' ⟨rfl, rfl⟩
  go_wp2_with fail
  go_ret
  exact ⟨rfl, rfl⟩

theorem rmay_any (worked all part : Int) (w : World) (p1 : -9223372036854775808 ≤ part) (p2 : part ≤ 9223372036854775807) :
    Calls Try.prog 12 #[.int .i64 worked, .int .i64 all, .int .i64 part] w fun e w' => e = .returned (.bool (mayB worked all part)) ∧ w = w' := by
  obtain ⟨u1, u2⟩ := bnd_le 0 1099511627776 worked (by omega)
  obtain ⟨v1, v2⟩ := bnd_le 0 1099511627776 all (by omega)
  unfold mayB
  generalize hu : bnd 0 1099511627776 worked = u at *
  generalize hv : bnd 0 1099511627776 all = v at *
  obtain ⟨k1, k2, k3⟩ := may_plain u v part u1 u2 v1 v2
  exact rmay_walk worked all part u v _ _ _ _ w (Lib.hid hu) (Lib.hid hv) u1 u2 v1 v2 (Lib.hid k1) (by omega) (by omega) (Lib.hid k2) p1 p2 (Lib.hid rfl) (decide_eq_decide.2 k3)

end Go.Proofs.Ytejddpkilimfbaa
