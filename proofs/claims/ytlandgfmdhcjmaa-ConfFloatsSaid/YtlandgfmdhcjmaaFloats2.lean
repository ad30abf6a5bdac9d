/- ConfFloats: what floats come to is what the document says: any two configurations. -/
import Derived.Test.YtlandgfmdhcjmaaSame2
namespace Go.Proofs.Ytlandgfmdhcjmaa
open Ieee Go.RowKit
set_option linter.unusedVariables false

theorem Dn.boxes {w w' : World} (h : Dn w w') : Ex w w' := h.ex

set_option maxHeartbeats 3200000 in
set_option maxRecDepth 10000 in
theorem walk_ConfFloats (a c b d : Int) (x x' y y' : Nat) (w : World) :
    Calls Try.prog 6 #[cfg a c x x', cfg b d y y'] w fun e w' => e = .returned (.bool true) ∧ Below w.heap.size w w' := by
  obtain ⟨n, s, -, -, -, hA, hA'⟩ := pct_both x
  obtain ⟨m, t, -, -, -, hB, hB'⟩ := pct_both y
  obtain ⟨p, -, -, -, hP, hP'⟩ := part_both x'
  obtain ⟨q, -, -, -, hQ, hQ'⟩ := part_both y'
  obtain ⟨v, hv⟩ : ∃ v, (decide (a = b ∧ c = d ∧ n = m ∧ s = t ∧ p = q)) = v := ⟨_, rfl⟩
  obtain ⟨u, hu⟩ : ∃ u, mayB a c = u := ⟨_, rfl⟩
  have S1 := Lib.hid fun w => same_any a c b d x x' y y' n m s t p q v w hv (Lib.hid hA) (Lib.hid hB) (Lib.hid hP) (Lib.hid hQ)
  have S2 := Lib.hid fun w => same_any a c a c x x' x x' n n s s p p true w (by simp) (Lib.hid hA) (Lib.hid hA) (Lib.hid hP) (Lib.hid hP)
  have M1 := Lib.hid fun w => may_prog a c x x' u w hu
  have M2 := Lib.hid fun w => may_ref a c x x' u w hu
  have HA := Lib.hid hA
  have HA' := Lib.hid hA'
  have HB' := Lib.hid hB'
  have HP := Lib.hid hP
  have HP' := Lib.hid hP'
  have HQ' := Lib.hid hQ'
  have key := same_key a b c d n m s t p q v hv
  clear hv hu hA hA' hB hB' hP hP' hQ hQ'
  rcases key with ⟨h1, h2, h3, h4, h5, rfl⟩ | ⟨h1, rfl⟩ | ⟨h1, h2, rfl⟩ | ⟨h1, h2, h3, rfl⟩ | ⟨h1, h2, h3, h4, rfl⟩ | ⟨h1, h2, h3, h4, h5, rfl⟩
  all_goals
    go_enter Try.func6, Try.ntmps6
    go_wp2_with fail
    refine (HA.out _).mono ?_
    rintro e w' ⟨rfl, rfl⟩
    go_wp2_with fail
    refine (HA'.out _).mono ?_
    rintro e w1 ⟨rfl, hw⟩
    obtain ⟨e0, b1, b2⟩ := two_boxes w #[.int .i64 a, .int .i64 c, .float .f64 x, .float .f64 x'] #[.int .i64 b, .int .i64 d, .float .f64 y, .float .f64 y'] 31
    have E1 := Lib.hid (e0.trans hw.ex)
    have B1 := (b1.ex hw.ex).four ⟨_, Ex.refl _⟩
    have B2 := (b2.ex hw.ex).four ⟨_, Ex.refl _⟩
    have b1' := Lib.hid (b1.ex hw.ex)
    have b2' := Lib.hid (b2.ex hw.ex)
    obtain ⟨B10, B11, B12, B13⟩ := B1
    obtain ⟨B20, B21, B22, B23⟩ := B2
    simp only [Out.w] at B10 B11 B12 B13 B20 B21 B22 B23
    clear e0 b1 b2 hw
    go_wp2_with fail
    refine (HB'.out _).mono ?_
    rintro e w2 ⟨rfl, hw⟩
    have E2 := Lib.hid (E1.out.trans hw.ex)
    have B1 := (b1'.out.ex hw.ex).four
    have B2 := (b2'.out.ex hw.ex).four
    have c1 := Lib.hid (b1'.out.ex hw.ex)
    have c2 := Lib.hid (b2'.out.ex hw.ex)
    clear B10 B11 B12 B13 B20 B21 B22 B23 E1 b1' b2' hw
    go_wp2_with fail
    refine wp_region_ex (by kernel_rfl) (by kernel_rfl) ?_
    try simp only [List.append]
    repeat (go_big_quiet_step ((go_at_call 13; first | (with_reducible exact quiet_eq (HP'.out _)) | (with_reducible exact quiet_eq (HQ'.out _)))))
    refine wpQuiet_nil ?_
    rintro w4 ⟨⟨wz, hw⟩, rfl⟩
    have E3 := Lib.hid (E2.out.trans hw)
    have B1 := (c1.out.ex hw).four
    have B2 := (c2.out.ex hw).four
    clear E2 c1 c2 hw
    go_wp2_with fail
    refine wp_region_ex (by kernel_rfl) (by kernel_rfl) ?_
    try simp only [List.append]
    repeat (go_big_quiet_step (first
      | (go_at_call 9; exact quiet_ex (told_any _))
      | (go_at_call 10; exact quiet_ex (M1.out _))
      | (go_at_call 14; exact quiet_ex (M2.out _))
      | (go_at_call 8; exact quiet_eq (HP.out _))
      | (go_at_call 13; exact quiet_eq (HP'.out _))
      | (go_at_call 15; first | (with_reducible exact quiet_ex (S1.out _)) | (with_reducible exact quiet_ex (S2.out _)))))
    refine wpQuiet_nil ?_
    rintro w5 ⟨⟨wz, hw⟩, rfl⟩
    have E4 := Lib.hid (E3.out.trans hw)
    clear E3 B1 B2 hw
    go_wp2_with fail
    go_ret
    exact ⟨rfl, E4.out⟩

end Go.Proofs.Ytlandgfmdhcjmaa
