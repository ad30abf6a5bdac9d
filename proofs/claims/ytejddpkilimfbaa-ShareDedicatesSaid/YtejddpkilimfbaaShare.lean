/- Package share, and the document's own answer for it: their contracts. -/
import Derived.Test.YtejddpkilimfbaaFixE
import Derived.Test.YtejddpkilimfbaaRef1
namespace Go.Proofs.Ytejddpkilimfbaa
open Go.RowKit
set_option linter.unusedVariables false

/-- A number taken into its bounds. -/
def bnd (lo hi x : Int) : Int := min (max x lo) hi
theorem bnd_le (lo hi x : Int) (h : lo ≤ hi) : lo ≤ bnd lo hi x ∧ bnd lo hi x ≤ hi := by unfold bnd; omega
theorem bnd_in {lo hi x : Int} (h : lo ≤ x) (h' : x ≤ hi) : bnd lo hi x = x := by unfold bnd; omega

/-- How many work for the collector alone. -/
def wk (ps part : Int) : Int := bnd 1 64 ps * bnd 0 1048576 part / 1048576
/-- The part that each other one may have. -/
def wl (ps part : Int) : Int := bnd 1 64 ps * bnd 0 1048576 part % 1048576 / bnd 1 64 ps

theorem all_bd (n p : Int) (h1 : 1 ≤ n) (h2 : n ≤ 64) (h3 : 0 ≤ p) (h4 : p ≤ 1048576) : 0 ≤ n * p ∧ n * p ≤ n * 1048576 := by
  refine ⟨Int.mul_nonneg (by omega) h3, ?_⟩
  exact Int.mul_le_mul_of_nonneg_left h4 (by omega)

theorem workers_plain (n all : Int) (h1 : 1 ≤ n) (h2 : n ≤ 64) (h3 : 0 ≤ all) (h4 : all ≤ n * 1048576) :
    fInt all = all / 1048576 ∧ fWhole (all / 1048576) = all / 1048576 * 1048576 ∧ fWhole n = n * 1048576 ∧ fDiv (all % 1048576) (n * 1048576) = all % 1048576 / n := by
  refine ⟨rfl, clamp_in (by omega) (by omega), clamp_in (by omega) (by omega), ?_⟩
  unfold fDiv
  rw [if_neg (by omega), floorDiv_pos (by omega), Int.mul_ediv_mul_of_pos_left _ _ (by omega)]
  have hb := ediv_bd (n := all % 1048576) (y := n) (B := 1048576) h1 (by omega) (by omega) (by omega)
  exact clamp_in (by omega) (by omega)

set_option maxHeartbeats 400000 in
theorem bounds_any (ps part : Int) (w : World) :
    Calls Try.prog 13 #[.int .i64 ps, .int .i64 part] w fun e w' => e = .returned (.tuple #[.int .i64 (bnd 1 64 ps), .int .i64 (bnd 0 1048576 part)]) ∧ w = w' := by
  go_enter Try.func13, Try.ntmps13
  go_wp2
  go_ret2
  exact ⟨rfl, rfl⟩

set_option maxHeartbeats 400000 in
theorem workers_walk (ps part n p all k r a l nn : Int) (w : World) (hn : Hid (bnd 1 64 ps = n)) (hp : Hid (bnd 0 1048576 part = p)) (n1 : 1 ≤ n) (n2 : n ≤ 64) (p1 : 0 ≤ p) (p2 : p ≤ 1048576)
    (e1 : n * p = all) (all1 : 0 ≤ all) (all2 : all ≤ 67108864) (e2 : Hid (fInt all = k)) (k1 : 0 ≤ k) (k2 : k ≤ 64) (e3 : Hid (fWhole k = a)) (e4 : all - a = r) (r1 : 0 ≤ r) (r2 : r < 1048576) (a1 : 0 ≤ a) (a2 : a ≤ 67108864)
    (e5 : Hid (fWhole n = nn)) (nn1 : 1 ≤ nn) (nn2 : nn ≤ 67108864) (e6 : Hid (fDiv r nn = l)) :
    Calls Try.prog 7 #[.int .i64 ps, .int .i64 part] w fun e w' => e = .returned (.tuple #[.int .i64 k, .int .i64 l]) ∧ Dr w w' := by
  go_enter Try.func7, Try.ntmps7
  go_wp2_with fail
  refine (bounds_any ps part _).mono ?_
  rintro e w' ⟨rfl, rfl⟩
  rw [hn.out, hp.out]
  go_wp2_with fail
  refine (rw_int e2).mono ?_
  rintro e w' ⟨rfl, rfl⟩
  go_wp2_with fail
  refine (rw_whole e3 (by omega) (by omega)).mono ?_
  rintro e w' ⟨rfl, rfl⟩
  go_wp2_with fail
  refine (rw_whole e5 (by omega) (by omega)).mono ?_
  rintro e w' ⟨rfl, rfl⟩
  go_wp2_with fail
  refine (rw_div e6 (by omega) (by omega) (by omega) (by omega)).mono ?_
  rintro e w1 ⟨rfl, hw⟩
  have Hw := Lib.hid hw
  clear hw
  go_wp2_with fail
  go_ret2
  exact ⟨rfl, Hw.out⟩

/-- share.Workers. -/
theorem workers_any (ps part : Int) (w : World) :
    Calls Try.prog 7 #[.int .i64 ps, .int .i64 part] w fun e w' => e = .returned (.tuple #[.int .i64 (wk ps part), .int .i64 (wl ps part)]) ∧ Dr w w' := by
  obtain ⟨n1, n2⟩ := bnd_le 1 64 ps (by omega)
  obtain ⟨p1, p2⟩ := bnd_le 0 1048576 part (by omega)
  obtain ⟨q1, q2⟩ := all_bd _ _ n1 n2 p1 p2
  obtain ⟨k1, k2, k3, k4⟩ := workers_plain _ _ n1 n2 q1 q2
  unfold wk wl
  generalize hn : bnd 1 64 ps = n at *
  generalize hp : bnd 0 1048576 part = p at *
  generalize hall : n * p = all at *
  exact workers_walk ps part n p all (all / 1048576) (all % 1048576) (all / 1048576 * 1048576) (all % 1048576 / n) (n * 1048576) w (Lib.hid hn) (Lib.hid hp) n1 n2 p1 p2 hall q1 (by omega) (Lib.hid k1) (by omega) (by omega) (Lib.hid k2)
    (by omega) (by omega) (by omega) (by omega) (by omega) (Lib.hid k3) (by omega) (by omega) (Lib.hid k4)

theorem wk_bd (ps part : Int) : 0 ≤ wk ps part ∧ wk ps part ≤ bnd 1 64 ps := by
  obtain ⟨n1, n2⟩ := bnd_le 1 64 ps (by omega)
  obtain ⟨p1, p2⟩ := bnd_le 0 1048576 part (by omega)
  obtain ⟨q1, q2⟩ := all_bd _ _ n1 n2 p1 p2
  unfold wk
  generalize bnd 1 64 ps * bnd 0 1048576 part = all at *
  omega

/-- share.Dedicated. -/
def isDed (p ps part : Int) : Bool := decide (0 ≤ p) && decide (p < wk ps part)

set_option maxHeartbeats 400000 in
theorem dedicated_any (p ps part : Int) (w : World) :
    Calls Try.prog 10 #[.int .i64 p, .int .i64 ps, .int .i64 part] w fun e w' => e = .returned (.bool (isDed p ps part)) ∧ Dr w w' := by
  unfold isDed
  by_cases h1 : 0 ≤ p
  · by_cases h2 : p < wk ps part
    · have e1 : (decide (0 ≤ p) && decide (p < wk ps part)) = true := by simp [h1, h2]
      rw [e1]
      clear e1
      go_enter Try.func10, Try.ntmps10
      go_wp2_with fail
      refine (workers_any ps part _).mono ?_
      rintro e w1 ⟨rfl, hw⟩
      have Hw := Lib.hid hw
      clear hw
      go_wp2_with fail
      go_ret
      exact ⟨rfl, Hw.out⟩
    · have e1 : (decide (0 ≤ p) && decide (p < wk ps part)) = false := by simp [h2]
      rw [e1]
      have h3 : decide (p < wk ps part) = false := by simpa using h2
      clear e1 h2
      go_enter Try.func10, Try.ntmps10
      go_wp2_with fail
      refine (workers_any ps part _).mono ?_
      rintro e w1 ⟨rfl, hw⟩
      have Hw := Lib.hid hw
      clear hw
      go_wp2_with fail
      go_ret
      exact ⟨rfl, Hw.out⟩
  · have e1 : (decide (0 ≤ p) && decide (p < wk ps part)) = false := by simp [h1]
    rw [e1]
    clear e1
    go_enter Try.func10, Try.ntmps10
    go_wp2_with fail
    refine (workers_any ps part _).mono ?_
    rintro e w1 ⟨rfl, hw⟩
    have Hw := Lib.hid hw
    clear hw
    go_wp2_with fail
    go_ret
    exact ⟨rfl, Hw.out⟩

/-- share.May. -/
def mayB (worked all part : Int) : Bool := decide ((bnd 0 1099511627776 worked + 1) * 1048576 ≤ (bnd 0 1099511627776 all + 1) * part)

theorem may_plain (u v part : Int) (u1 : 0 ≤ u) (u2 : u ≤ 1099511627776) (v1 : 0 ≤ v) (v2 : v ≤ 1099511627776) :
    fWhole (v + 1) = (v + 1) * 1048576 ∧ fWhole (u + 1) = (u + 1) * 1048576 ∧ (fMul ((v + 1) * 1048576) part ≥ (u + 1) * 1048576 ↔ (u + 1) * 1048576 ≤ (v + 1) * part) := by
  refine ⟨clamp_in (by omega) (by omega), clamp_in (by omega) (by omega), ?_⟩
  unfold fMul
  have e : (v + 1) * 1048576 * part / 1048576 = (v + 1) * part := by
    rw [Int.mul_assoc, Int.mul_comm 1048576, ← Int.mul_assoc]
    exact Int.mul_ediv_cancel _ (by omega)
  rw [e]
  rcases clamp_cases ((v + 1) * part) with h | h | h <;> omega

theorem few_any (n : Int) (w : World) :
    Calls Try.prog 20 #[.int .i64 n] w fun e w' => e = .returned (.int .i64 (bnd 0 1099511627776 n)) ∧ w = w' := by
  go_enter Try.func20, Try.ntmps20
  go_wp2
  go_ret
  exact ⟨rfl, rfl⟩

set_option maxHeartbeats 400000 in
theorem may_walk (worked all part u v uw vw m : Int) (b : Bool) (w : World) (hu : Hid (bnd 0 1099511627776 worked = u)) (hv : Hid (bnd 0 1099511627776 all = v)) (u1 : 0 ≤ u) (u2 : u ≤ 1099511627776) (v1 : 0 ≤ v) (v2 : v ≤ 1099511627776)
    (e1 : Hid (fWhole (v + 1) = vw)) (vw1 : 0 ≤ vw) (vw2 : vw ≤ 1152922604118474752) (e2 : Hid (fWhole (u + 1) = uw)) (p1 : -9223372036854775808 ≤ part) (p2 : part ≤ 9223372036854775807)
    (e3 : Hid (fMul vw part = m)) (hb : decide (uw ≤ m) = b) :
    Calls Try.prog 11 #[.int .i64 worked, .int .i64 all, .int .i64 part] w fun e w' => e = .returned (.bool b) ∧ w = w' := by
  go_enter Try.func11, Try.ntmps11
  go_wp2_with fail
  refine (few_any worked _).mono ?_
  rintro e w' ⟨rfl, rfl⟩
  rw [hu.out]
  go_wp2_with fail
  refine (few_any all _).mono ?_
  rintro e w' ⟨rfl, rfl⟩
  rw [hv.out]
  go_wp2_with fail
  refine (rw_whole e1 (by omega) (by omega)).mono ?_
  rintro e w' ⟨rfl, rfl⟩
  go_wp2_with fail
  refine (rw_mul e3 (by omega) (by omega) p1 p2).mono ?_
  rintro e w' ⟨rfl, rfl⟩
  go_wp2_with fail
  refine (rw_whole e2 (by omega) (by omega)).mono ?_
  rintro e w' ⟨rfl, rfl⟩
  go_wp2_with fail
  go_ret
  exact ⟨rfl, rfl⟩

theorem may_any (worked all part : Int) (w : World) (p1 : -9223372036854775808 ≤ part) (p2 : part ≤ 9223372036854775807) :
    Calls Try.prog 11 #[.int .i64 worked, .int .i64 all, .int .i64 part] w fun e w' => e = .returned (.bool (mayB worked all part)) ∧ w = w' := by
  obtain ⟨u1, u2⟩ := bnd_le 0 1099511627776 worked (by omega)
  obtain ⟨v1, v2⟩ := bnd_le 0 1099511627776 all (by omega)
  unfold mayB
  generalize hu : bnd 0 1099511627776 worked = u at *
  generalize hv : bnd 0 1099511627776 all = v at *
  obtain ⟨k1, k2, k3⟩ := may_plain u v part u1 u2 v1 v2
  exact may_walk worked all part u v _ _ _ _ w (Lib.hid hu) (Lib.hid hv) u1 u2 v1 v2 (Lib.hid k1) (by omega) (by omega) (Lib.hid k2) p1 p2 (Lib.hid rfl) (decide_eq_decide.2 k3)

end Go.Proofs.Ytejddpkilimfbaa
