/- Package sweep: its contracts; the law's own few examples. -/
import Derived.Test.YtngcibljopbppaaFixE
namespace Go.Proofs.Ytngcibljopbppaa
open Go.RowKit
set_option linter.unusedVariables false

/-- A number taken into its bounds. -/
def bnd (lo hi x : Int) : Int := min (max x lo) hi
theorem bnd_le (lo hi x : Int) (h : lo ≤ hi) : lo ≤ bnd lo hi x ∧ bnd lo hi x ≤ hi := by unfold bnd; omega
theorem bnd_in {lo hi x : Int} (h : lo ≤ x) (h' : x ≤ hi) : bnd lo hi x = x := by unfold bnd; omega

/-- The least whole number that is at least a by b. -/
def upDiv (a b : Int) : Int := if 0 < a % b then a / b + 1 else a / b

/-- How many spans are to be swept, of numbers that lie within their bounds. -/
def needIn (A D B N G : Int) : Int := if G ≤ B then A - D else min (max (upDiv (A * max (N - B) 0) (G - B) - D) 0) (A - D)

def needV (spans swept began now goal : Int) : Int :=
  needIn (bnd 0 2147483648 spans) (min (bnd 0 2147483648 swept) (bnd 0 2147483648 spans)) (bnd 0 2147483648 began) (bnd 0 2147483648 now) (bnd 0 2147483648 goal)

theorem few_any (n : Int) (w : World) :
    Calls Try.prog 10 #[.int .i64 n] w fun e w' => e = .returned (.int .i64 (bnd 0 2147483648 n)) ∧ w = w' := by
  go_enter Try.func10, Try.ntmps10
  go_wp2
  go_ret
  exact ⟨rfl, rfl⟩

theorem rw_few {a b : Int} {w : World} (h : Hid (bnd 0 2147483648 a = b)) :
    Calls Try.prog 10 #[.int .i64 a] w fun e w' => e = .returned (.int .i64 b) ∧ w = w' := by
  have k := few_any a w
  rw [h.out] at k
  exact k

theorem upDiv_bd (a b : Int) (ha : 0 ≤ a) (hb : 1 ≤ b) : 0 ≤ a / b ∧ a / b ≤ a ∧ 0 ≤ upDiv a b ∧ upDiv a b ≤ a + 1 := by
  have h1 : 0 ≤ a / b := Int.ediv_nonneg ha (by omega)
  have h2 : a / b ≤ a := Int.ediv_le_self _ ha
  unfold upDiv
  split <;> omega

set_option maxHeartbeats 400000 in
theorem up_any (a b : Int) (w : World) (a1 : 0 ≤ a) (a2 : a ≤ 4611686018427387904) (b1 : 1 ≤ b) :
    Calls Try.prog 11 #[.int .i64 a, .int .i64 b] w fun e w' => e = .returned (.int .i64 (upDiv a b)) ∧ w = w' := by
  obtain ⟨h1, h2, _, _⟩ := upDiv_bd a b a1 b1
  have hb0 : (b == 0) = false := by simp; omega
  by_cases h : 0 < a % b
  · have e1 : upDiv a b = a / b + 1 := if_pos h
    rw [e1]
    clear e1
    go_enter Try.func11, Try.ntmps11
    go_wp2
    go_ret
    exact ⟨rfl, rfl⟩
  · have e1 : upDiv a b = a / b := if_neg h
    rw [e1]
    clear e1
    go_enter Try.func11, Try.ntmps11
    go_wp2
    go_ret
    exact ⟨rfl, rfl⟩

set_option maxHeartbeats 800000 in
theorem need_walk (spans swept began now goal A D0 D B N G W U V : Int) (w : World) (hA : Hid (bnd 0 2147483648 spans = A)) (hD : Hid (bnd 0 2147483648 swept = D0)) (hB : Hid (bnd 0 2147483648 began = B)) (hN : Hid (bnd 0 2147483648 now = N)) (hG : Hid (bnd 0 2147483648 goal = G))
    (A1 : 0 ≤ A) (A2 : A ≤ 2147483648) (B1 : 0 ≤ B) (B2 : B ≤ 2147483648) (N1 : 0 ≤ N) (N2 : N ≤ 2147483648) (G1 : 0 ≤ G) (G2 : G ≤ 2147483648) (hD2 : min D0 A = D) (D1 : 0 ≤ D) (D2 : D ≤ A)
    (hgb : ¬ G ≤ B) (hW : A * max (N - B) 0 = W) (W1 : 0 ≤ W) (W2 : W ≤ 4611686018427387904) (hU : Hid (upDiv W (G - B) = U)) (U1 : 0 ≤ U) (U2 : U ≤ 4611686018427387905) (hV : min (max (U - D) 0) (A - D) = V) :
    Calls Try.prog 5 #[.int .i64 spans, .int .i64 swept, .int .i64 began, .int .i64 now, .int .i64 goal] w fun e w' => e = .returned (.int .i64 V) ∧ w = w' := by
  go_enter Try.func5, Try.ntmps5
  go_wp2_with fail
  refine (rw_few hA).mono ?_
  rintro e w' ⟨rfl, rfl⟩
  go_wp2_with fail
  refine (rw_few hD).mono ?_
  rintro e w' ⟨rfl, rfl⟩
  go_wp2_with fail
  refine (rw_few hB).mono ?_
  rintro e w' ⟨rfl, rfl⟩
  go_wp2_with fail
  refine (rw_few hN).mono ?_
  rintro e w' ⟨rfl, rfl⟩
  go_wp2_with fail
  refine (rw_few hG).mono ?_
  rintro e w' ⟨rfl, rfl⟩
  go_wp2_with fail
  have k := up_any W (G - B) w W1 W2 (by omega)
  rw [hU.out] at k
  refine k.mono ?_
  clear k
  rintro e w' ⟨rfl, rfl⟩
  go_wp2_with fail
  go_ret
  exact ⟨rfl, rfl⟩

set_option maxHeartbeats 800000 in
theorem need_walk0 (spans swept began now goal A D0 D B N G : Int) (w : World) (hA : Hid (bnd 0 2147483648 spans = A)) (hD : Hid (bnd 0 2147483648 swept = D0)) (hB : Hid (bnd 0 2147483648 began = B)) (hN : Hid (bnd 0 2147483648 now = N)) (hG : Hid (bnd 0 2147483648 goal = G))
    (A1 : 0 ≤ A) (A2 : A ≤ 2147483648) (hD2 : min D0 A = D) (D1 : 0 ≤ D) (D2 : D ≤ A) (hgb : G ≤ B) :
    Calls Try.prog 5 #[.int .i64 spans, .int .i64 swept, .int .i64 began, .int .i64 now, .int .i64 goal] w fun e w' => e = .returned (.int .i64 (A - D)) ∧ w = w' := by
  go_enter Try.func5, Try.ntmps5
  go_wp2_with fail
  refine (rw_few hA).mono ?_
  rintro e w' ⟨rfl, rfl⟩
  go_wp2_with fail
  refine (rw_few hD).mono ?_
  rintro e w' ⟨rfl, rfl⟩
  go_wp2_with fail
  refine (rw_few hB).mono ?_
  rintro e w' ⟨rfl, rfl⟩
  go_wp2_with fail
  refine (rw_few hN).mono ?_
  rintro e w' ⟨rfl, rfl⟩
  go_wp2_with fail
  refine (rw_few hG).mono ?_
  rintro e w' ⟨rfl, rfl⟩
  go_wp2_with fail
  go_ret
  exact ⟨rfl, rfl⟩

/-- sweep.Need. -/
theorem need_any (spans swept began now goal : Int) (w : World) :
    Calls Try.prog 5 #[.int .i64 spans, .int .i64 swept, .int .i64 began, .int .i64 now, .int .i64 goal] w fun e w' => e = .returned (.int .i64 (needV spans swept began now goal)) ∧ w = w' := by
  obtain ⟨A1, A2⟩ := bnd_le 0 2147483648 spans (by omega)
  obtain ⟨E1, E2⟩ := bnd_le 0 2147483648 swept (by omega)
  obtain ⟨B1, B2⟩ := bnd_le 0 2147483648 began (by omega)
  obtain ⟨N1, N2⟩ := bnd_le 0 2147483648 now (by omega)
  obtain ⟨G1, G2⟩ := bnd_le 0 2147483648 goal (by omega)
  unfold needV needIn
  generalize hA : bnd 0 2147483648 spans = A at *
  generalize hE : bnd 0 2147483648 swept = E at *
  generalize hB : bnd 0 2147483648 began = B at *
  generalize hN : bnd 0 2147483648 now = N at *
  generalize hG : bnd 0 2147483648 goal = G at *
  by_cases h : G ≤ B
  · rw [if_pos h]
    exact need_walk0 spans swept began now goal A E _ B N G w (Lib.hid hA) (Lib.hid hE) (Lib.hid hB) (Lib.hid hN) (Lib.hid hG) A1 A2 rfl (by omega) (by omega) h
  · rw [if_neg h]
    have W1 : 0 ≤ A * max (N - B) 0 := Int.mul_nonneg A1 (by omega)
    have W2 : A * max (N - B) 0 ≤ 2147483648 * 2147483648 := Int.mul_le_mul A2 (by omega) (by omega) (by omega)
    have U := upDiv_bd _ (G - B) W1 (by omega)
    exact need_walk spans swept began now goal A E _ B N G _ _ _ w (Lib.hid hA) (Lib.hid hE) (Lib.hid hB) (Lib.hid hN) (Lib.hid hG) A1 A2 B1 B2 N1 N2 G1 G2 rfl (by omega) (by omega) h rfl W1 (by omega) (Lib.hid rfl) U.2.2.1 (by omega) rfl

theorem kneed {spans swept began now goal V : Int} {w : World} (h : needV spans swept began now goal = V) :
    Calls Try.prog 5 #[.int .i64 spans, .int .i64 swept, .int .i64 began, .int .i64 now, .int .i64 goal] w fun e w' => e = .returned (.int .i64 V) ∧ w = w' := by
  have k := need_any spans swept began now goal w
  rw [h] at k
  exact k

/-- How many spans are swept for each word. -/
def evenV (spans began goal : Int) : Int :=
  if bnd 0 2147483648 goal ≤ bnd 0 2147483648 began then fMax else fDiv (bnd 0 2147483648 spans * 1048576) ((bnd 0 2147483648 goal - bnd 0 2147483648 began) * 1048576)

set_option maxHeartbeats 800000 in
theorem even_walk (spans began goal A B G a b v : Int) (w : World) (hA : Hid (bnd 0 2147483648 spans = A)) (hB : Hid (bnd 0 2147483648 began = B)) (hG : Hid (bnd 0 2147483648 goal = G))
    (A1 : 0 ≤ A) (A2 : A ≤ 2147483648) (B1 : 0 ≤ B) (B2 : B ≤ 2147483648) (G1 : 0 ≤ G) (G2 : G ≤ 2147483648) (hgb : ¬ G ≤ B)
    (ha : Hid (fWhole A = a)) (a1 : 0 ≤ a) (a2 : a ≤ 2251799813685248) (hb : Hid (fWhole (G - B) = b)) (b1 : 0 ≤ b) (b2 : b ≤ 2251799813685248) (hv : Hid (fDiv a b = v)) :
    Calls Try.prog 7 #[.int .i64 spans, .int .i64 began, .int .i64 goal] w fun e w' => e = .returned (.int .i64 v) ∧ Dr w w' := by
  go_enter Try.func7, Try.ntmps7
  go_wp2_with fail
  refine (rw_few hA).mono ?_
  rintro e w' ⟨rfl, rfl⟩
  go_wp2_with fail
  refine (rw_few hB).mono ?_
  rintro e w' ⟨rfl, rfl⟩
  go_wp2_with fail
  refine (rw_few hG).mono ?_
  rintro e w' ⟨rfl, rfl⟩
  go_wp2_with fail
  refine (rw_whole ha (by omega) (by omega)).mono ?_
  rintro e w' ⟨rfl, rfl⟩
  go_wp2_with fail
  refine (rw_whole hb (by omega) (by omega)).mono ?_
  rintro e w' ⟨rfl, rfl⟩
  go_wp2_with fail
  refine (rw_div hv (by omega) (by omega) (by omega) (by omega)).mono ?_
  rintro e w1 ⟨rfl, hw⟩
  have Hw := Lib.hid hw
  clear hw
  go_wp2_with fail
  go_ret
  exact ⟨rfl, Hw.out⟩

set_option maxHeartbeats 800000 in
theorem even_walk0 (spans began goal A B G : Int) (w : World) (hA : Hid (bnd 0 2147483648 spans = A)) (hB : Hid (bnd 0 2147483648 began = B)) (hG : Hid (bnd 0 2147483648 goal = G)) (hgb : G ≤ B) :
    Calls Try.prog 7 #[.int .i64 spans, .int .i64 began, .int .i64 goal] w fun e w' => e = .returned (.int .i64 fMax) ∧ Dr w w' := by
  go_enter Try.func7, Try.ntmps7
  go_wp2_with fail
  refine (rw_few hA).mono ?_
  rintro e w' ⟨rfl, rfl⟩
  go_wp2_with fail
  refine (rw_few hB).mono ?_
  rintro e w' ⟨rfl, rfl⟩
  go_wp2_with fail
  refine (rw_few hG).mono ?_
  rintro e w' ⟨rfl, rfl⟩
  go_wp2_with fail
  go_ret
  exact ⟨rfl, Dr.refl _⟩

theorem even_any (spans began goal : Int) (w : World) :
    Calls Try.prog 7 #[.int .i64 spans, .int .i64 began, .int .i64 goal] w fun e w' => e = .returned (.int .i64 (evenV spans began goal)) ∧ Dr w w' := by
  obtain ⟨A1, A2⟩ := bnd_le 0 2147483648 spans (by omega)
  obtain ⟨B1, B2⟩ := bnd_le 0 2147483648 began (by omega)
  obtain ⟨G1, G2⟩ := bnd_le 0 2147483648 goal (by omega)
  unfold evenV
  generalize hA : bnd 0 2147483648 spans = A at *
  generalize hB : bnd 0 2147483648 began = B at *
  generalize hG : bnd 0 2147483648 goal = G at *
  by_cases h : G ≤ B
  · rw [if_pos h]
    exact even_walk0 spans began goal A B G w (Lib.hid hA) (Lib.hid hB) (Lib.hid hG) h
  · rw [if_neg h]
    have ha : fWhole A = A * 1048576 := clamp_in (by omega) (by omega)
    have hb : fWhole (G - B) = (G - B) * 1048576 := clamp_in (by omega) (by omega)
    exact even_walk spans began goal A B G _ _ _ w (Lib.hid hA) (Lib.hid hB) (Lib.hid hG) A1 A2 B1 B2 G1 G2 h (Lib.hid ha) (by omega) (by omega) (Lib.hid hb) (by omega) (by omega) (Lib.hid rfl)

theorem keven {spans began goal V : Int} {w : World} (h : evenV spans began goal = V) :
    Calls Try.prog 7 #[.int .i64 spans, .int .i64 began, .int .i64 goal] w fun e w' => e = .returned (.int .i64 V) ∧ Dr w w' := by
  have k := even_any spans began goal w
  rw [h] at k
  exact k

set_option maxHeartbeats 400000 in
theorem told_any (w : World) : Calls Try.prog 6 #[] w fun e w' => e = .returned (.bool true) ∧ Dr w w' := by
  go_enter Try.func6, Try.ntmps6
  go_wp2_with fail
  refine (kneed (V := 5) (by decide)).mono ?_
  rintro e w' ⟨rfl, rfl⟩
  go_wp2_with fail
  refine (kneed (V := 1) (by decide)).mono ?_
  rintro e w' ⟨rfl, rfl⟩
  go_wp2_with fail
  refine (kneed (V := 7) (by decide)).mono ?_
  rintro e w' ⟨rfl, rfl⟩
  go_wp2_with fail
  refine (keven (V := 9223372036854775807) (by decide)).mono ?_
  rintro e w1 ⟨rfl, hw⟩
  have Hw1 := Lib.hid hw
  clear hw
  go_wp2_with fail
  refine (keven (V := 524288) (by decide)).mono ?_
  rintro e w2 ⟨rfl, hw⟩
  have Hw2 := Lib.hid (Hw1.out.trans hw)
  clear hw
  go_wp2_with fail
  go_ret
  exact ⟨rfl, Hw2.out⟩

end Go.Proofs.Ytngcibljopbppaa
