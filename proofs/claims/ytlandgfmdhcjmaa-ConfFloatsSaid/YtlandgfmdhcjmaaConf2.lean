/- Package conf and the document's chapter 2: what they give for every float. -/
import Derived.Test.YtlandgfmdhcjmaaConf2W
import Derived.Test.YtlandgfmdhcjmaaFltAdd
namespace Go.Proofs.Ytlandgfmdhcjmaa
open Ieee Go.RowKit
set_option linter.unusedVariables false

theorem Dn.refl (w : World) : Dn w w := ⟨0, rfl⟩
theorem Dn.trans {a b c : World} (h : Dn a b) (k : Dn b c) : Dn a c := by
  obtain ⟨n, rfl⟩ := h
  obtain ⟨m, rfl⟩ := k
  exact ⟨n + m, by simp [World.drewN, Nat.add_assoc]⟩

/-- A value's order to another's. -/
theorem ov {x y : Nat} {A B : Int} (hx : HasV x A) (hy : HasV y B) : FloatKind.f64.format.order x y = some (compare A B) := order_val hx hy

theorem val_one {x : Nat} {A B : Int} (hx : HasV x A) (hy : HasV x B) : A = B := by
  obtain ⟨s, m, i, h1, h2, _, rfl⟩ := hx.ex
  obtain ⟨t, n, j, k1, k2, _, rfl⟩ := hy.ex
  rw [h1] at k1; cases k1; rfl
theorem inf_no_val {x : Nat} {s : Bool} {A : Int} (h : double.read x = .infinity s) (hx : HasV x A) : False := by
  obtain ⟨t, m, i, h1, -⟩ := hx.ex
  rw [h] at h1; cases h1

/-- What Percent gives. -/
def PctIs (x : Nat) (n : Int) (b : Bool) : Prop :=
  (FloatKind.f64.format.order x x = none ∧ n = 100 ∧ b = true) ∨ (n = 0 ∧ b = false ∧ FloatKind.f64.format.order x x = some .eq ∧ ∀ V, HasV x V → V < 0) ∨ ∃ V, HasV x V ∧ 0 ≤ V ∧ n = min V (10000 * T) / T ∧ b = true

theorem pct_both (x : Nat) : ∃ (n : Int) (b : Bool), PctIs x n b ∧ 0 ≤ n ∧ n ≤ 10000 ∧
    (∀ w, Calls Try.prog 7 #[.float .f64 x] w fun e w' => e = .returned (.tuple #[.int .i64 n, .bool b]) ∧ w = w') ∧
    (∀ w, Calls Try.prog 12 #[.float .f64 x] w fun e w' => e = .returned (.tuple #[.int .i64 n, .bool b]) ∧ Dn w w') := by
  have hp := T_pos
  rcases read_cases x with ⟨s, f, h⟩ | ⟨s, h⟩ | ⟨V, h⟩
  · have o0 := nan_order (y := x) h
    exact ⟨100, true, .inl ⟨o0, rfl, rfl⟩, by omega, by omega, fun w => pc_nan x w o0, fun w => rp_nan x w o0⟩
  · have o0 : FloatKind.f64.format.order x x = some .eq := not_nan_order (by intro a b k; rw [h] at k; cases k)
    have o1 := inf_order h v_zero
    have o2 := inf_order h (y := 9218868437227405311) ⟨⟨false, 9007199254740991, 971, by decide +kernel, by omega, by omega, rfl⟩⟩
    cases s
    · have hs : floatBits .sub .f64 x x = none := by
        show Format.sub double x x = _
        unfold Format.sub
        rw [h]; rfl
      exact ⟨0, false, .inr (.inl ⟨rfl, rfl, o0, fun V k => (inf_no_val h k).elim⟩), by omega, by omega, fun w => pc_inf x w o0 o1 o2, fun w => rp_inf x w o0 o1 hs⟩
    · exact ⟨0, false, .inr (.inl ⟨rfl, rfl, o0, fun V k => (inf_no_val h k).elim⟩), by omega, by omega, fun w => pc_neg x w o0 o1, fun w => rp_neg x w o0 o1⟩
  · have o0 : FloatKind.f64.format.order x x = some .eq := (ov h h).trans (by rw [Int.compare_eq_eq.2 rfl])
    have q1 := ov h v_zero
    have q3 := ov h v_10000
    by_cases c : V < 0
    · rw [Int.compare_eq_lt.2 c] at q1
      exact ⟨0, false, .inr (.inl ⟨rfl, rfl, o0, fun V' k => by rw [val_one k h]; exact c⟩), by omega, by omega, fun w => pc_neg x w o0 q1, fun w => rp_neg x w o0 q1⟩
    · have q1' : FloatKind.f64.format.order x 0 = some .gt ∨ FloatKind.f64.format.order x 0 = some .eq := by
        rcases Int.lt_or_eq_of_le (by omega : 0 ≤ V) with g | g
        · left; rw [q1, Int.compare_eq_gt.2 g]
        · right; rw [q1, Int.compare_eq_eq.2 g.symm]
      obtain ⟨m, hm, hmin⟩ := min_val h
      obtain ⟨r, f1, f2, -, f3, f4⟩ := pct_facts hm (by omega) (by omega)
      obtain ⟨d, hs, hd⟩ := sub_self h
      have hd0 : FloatKind.f64.format.order d 0 = some .eq := (ov hd v_zero).trans (by rw [Int.compare_eq_eq.2 rfl])
      refine ⟨min V (10000 * T) / T, true, .inr (.inr ⟨V, h, by omega, rfl, rfl⟩), f3, f4, fun w => pc_in x m r _ w o0 q1' (fin_le h) hmin f1 f2, ?_⟩
      by_cases c2 : V < 10000 * T
      · rw [Int.compare_eq_lt.2 c2] at q3
        rw [Int.min_eq_left (by omega)]
        obtain ⟨-, -, -, g2, -⟩ := pct_facts h (by omega) (by omega)
        exact fun w => rp_in x d _ w o0 q1' hs hd0 q3 g2
      · have e : min V (10000 * T) / T = 10000 := by
          rw [Int.min_eq_right (by omega), Int.mul_ediv_cancel _ (by omega)]
        rw [e]
        have q3' : FloatKind.f64.format.order x 4666723172467343360 = some .gt ∨ FloatKind.f64.format.order x 4666723172467343360 = some .eq := by
          rcases Int.lt_or_eq_of_le (by omega : 10000 * T ≤ V) with g | g
          · left; rw [q3, Int.compare_eq_gt.2 g]
          · right; rw [q3, Int.compare_eq_eq.2 g.symm]
        have q1'' : FloatKind.f64.format.order x 0 = some .gt := by rw [q1, Int.compare_eq_gt.2 (by omega)]
        exact fun w => rp_big x d w o0 q1'' hs hd0 q3'

theorem pa_const (x : Nat) (n : Int) (w : World) (h : (FloatKind.f64.format.order x x = none ∧ n = 262144) ∨ (FloatKind.f64.format.order x x = some .eq ∧ FloatKind.f64.format.order x 4580160821035794432 = some .lt ∧ n = 16384) ∨
      (FloatKind.f64.format.order x x = some .eq ∧ (FloatKind.f64.format.order x 4580160821035794432 = some .gt ∨ FloatKind.f64.format.order x 4580160821035794432 = some .eq) ∧ (FloatKind.f64.format.order x 4607182418800017408 = some .gt ∨ FloatKind.f64.format.order x 4607182418800017408 = some .eq) ∧ n = 1048576)) :
    (Calls Try.prog 8 #[.float .f64 x] w fun e w' => e = .returned (.int .i64 n) ∧ w = w') ∧ (Calls Try.prog 13 #[.float .f64 x] w fun e w' => e = .returned (.int .i64 n) ∧ w = w') := by
  rcases h with ⟨o0, rfl⟩ | ⟨o0, o1, rfl⟩ | ⟨o0, o1, o2, rfl⟩
  · constructor
    · go_enter Try.func8, Try.ntmps8
      go_wp2
      go_ret
      exact ⟨rfl, rfl⟩
    · go_enter Try.func13, Try.ntmps13
      go_wp2
      go_ret
      exact ⟨rfl, rfl⟩
  · constructor
    · go_enter Try.func8, Try.ntmps8
      go_wp2
      go_ret
      exact ⟨rfl, rfl⟩
    · go_enter Try.func13, Try.ntmps13
      go_wp2
      go_ret
      exact ⟨rfl, rfl⟩
  · rcases o1 with o1 | o1 <;> rcases o2 with o2 | o2
    all_goals
      constructor
      · go_enter Try.func8, Try.ntmps8
        go_wp2
        go_ret
        exact ⟨rfl, rfl⟩
      · go_enter Try.func13, Try.ntmps13
        go_wp2
        go_ret
        exact ⟨rfl, rfl⟩

theorem pa_in (x : Nat) (n : Int) (w : World) (o0 : FloatKind.f64.format.order x x = some .eq) (o1 : FloatKind.f64.format.order x 4580160821035794432 = some .gt ∨ FloatKind.f64.format.order x 4580160821035794432 = some .eq) (o2 : FloatKind.f64.format.order x 4607182418800017408 = some .lt)
    (h1 : ∀ w, Calls Try.prog 18 #[.float .f64 x] w fun e w' => e = .returned (.int .i64 n) ∧ w = w') :
    Calls Try.prog 8 #[.float .f64 x] w fun e w' => e = .returned (.int .i64 n) ∧ w = w' := by
  have H1 := Lib.hid h1
  clear h1
  rcases o1 with o1 | o1
  all_goals
    go_enter Try.func8, Try.ntmps8
    go_wp2_with (go_at_call 18; refine (H1.out _).mono ?_; rintro e w' ⟨rfl, rfl⟩)
    go_ret
    exact ⟨rfl, rfl⟩
theorem ra_in (x : Nat) (n : Int) (w : World) (o0 : FloatKind.f64.format.order x x = some .eq) (o1 : FloatKind.f64.format.order x 4580160821035794432 = some .gt ∨ FloatKind.f64.format.order x 4580160821035794432 = some .eq) (o2 : FloatKind.f64.format.order x 4607182418800017408 = some .lt)
    (h1 : ∀ w, Calls Try.prog 19 #[.float .f64 x] w fun e w' => e = .returned (.int .i64 n) ∧ w = w') :
    Calls Try.prog 13 #[.float .f64 x] w fun e w' => e = .returned (.int .i64 n) ∧ w = w' := by
  have H1 := Lib.hid h1
  clear h1
  rcases o1 with o1 | o1
  all_goals
    go_enter Try.func13, Try.ntmps13
    go_wp2_with (go_at_call 19; refine (H1.out _).mono ?_; rintro e w' ⟨rfl, rfl⟩)
    go_ret
    exact ⟨rfl, rfl⟩

/-- What Part gives. -/
def PartIs (x : Nat) (p : Int) : Prop :=
  (FloatKind.f64.format.order x x = none ∧ p = 262144) ∨ (double.read x = .infinity true ∧ p = 16384) ∨ (double.read x = .infinity false ∧ p = 1048576) ∨ ∃ V, HasV x V ∧ p = min (max (V * 1048576 / T) 16384) 1048576


theorem part_both (x : Nat) : ∃ p : Int, PartIs x p ∧ 16384 ≤ p ∧ p ≤ 1048576 ∧
    (∀ w, Calls Try.prog 8 #[.float .f64 x] w fun e w' => e = .returned (.int .i64 p) ∧ w = w') ∧
    (∀ w, Calls Try.prog 13 #[.float .f64 x] w fun e w' => e = .returned (.int .i64 p) ∧ w = w') := by
  have hp := T_pos
  obtain ⟨Q, hQ, eQ⟩ := v_64th
  rcases read_cases x with ⟨s, f, h⟩ | ⟨s, h⟩ | ⟨V, h⟩
  · have o0 := nan_order (y := x) h
    exact ⟨262144, .inl ⟨o0, rfl⟩, by omega, by omega, fun w => (pa_const x _ w (.inl ⟨o0, rfl⟩)).1, fun w => (pa_const x _ w (.inl ⟨o0, rfl⟩)).2⟩
  · have o0 : FloatKind.f64.format.order x x = some .eq := not_nan_order (by intro a b k; rw [h] at k; cases k)
    have o1 := inf_order h hQ
    have o2 := inf_order h v_one
    cases s
    · exact ⟨1048576, .inr (.inr (.inl ⟨h, rfl⟩)), by omega, by omega, fun w => (pa_const x _ w (.inr (.inr ⟨o0, .inl o1, .inl o2, rfl⟩))).1, fun w => (pa_const x _ w (.inr (.inr ⟨o0, .inl o1, .inl o2, rfl⟩))).2⟩
    · exact ⟨16384, .inr (.inl ⟨h, rfl⟩), by omega, by omega, fun w => (pa_const x _ w (.inr (.inl ⟨o0, o1, rfl⟩))).1, fun w => (pa_const x _ w (.inr (.inl ⟨o0, o1, rfl⟩))).2⟩
  · have o0 : FloatKind.f64.format.order x x = some .eq := (ov h h).trans (by rw [Int.compare_eq_eq.2 rfl])
    have q1 := ov h hQ
    have q2 := ov h v_one
    by_cases c1 : V < Q
    · rw [Int.compare_eq_lt.2 c1] at q1
      have e : min (max (V * 1048576 / T) 16384) 1048576 = 16384 := by
        have : V * 1048576 / T < 16384 := Int.ediv_lt_of_lt_mul hp (by omega)
        omega
      exact ⟨_, .inr (.inr (.inr ⟨V, h, rfl⟩)), by omega, by omega, fun w => (pa_const x _ w (.inr (.inl ⟨o0, q1, e⟩))).1, fun w => (pa_const x _ w (.inr (.inl ⟨o0, q1, e⟩))).2⟩
    · have q1' : FloatKind.f64.format.order x 4580160821035794432 = some .gt ∨ FloatKind.f64.format.order x 4580160821035794432 = some .eq := by
        rcases Int.lt_or_eq_of_le (by omega : Q ≤ V) with g | g
        · left; rw [q1, Int.compare_eq_gt.2 g]
        · right; rw [q1, Int.compare_eq_eq.2 g.symm]
      by_cases c2 : V < T
      · rw [Int.compare_eq_lt.2 c2] at q2
        obtain ⟨m, r, n, k, f1, f2, f3, f4, f5, f6, f7, f8, f9, f10, f11, f12⟩ := fix_facts h (by omega) (by omega)
        have p0 : FloatKind.f64.format.order x 4800837202776948736 = some .lt := (ov h hi_val).trans (by rw [Int.compare_eq_lt.2 (by omega)])
        have p1 : FloatKind.f64.format.order x 14024209239631724544 = some .gt := (ov h lo_val).trans (by rw [Int.compare_eq_gt.2 (by omega)])
        have n1 : 16384 ≤ n := by rw [f4]; exact Int.le_ediv_of_mul_le hp (by omega)
        have n2 : n < 1048576 := by rw [f4]; exact Int.ediv_lt_of_lt_mul hp (by omega)
        have e : min (max (V * 1048576 / T) 16384) 1048576 = n := by rw [← f4]; omega
        refine ⟨n, .inr (.inr (.inr ⟨V, h, e.symm⟩)), by omega, by omega, fun w => pa_in x n w o0 q1' q2 fun w => float_walk x m r n w o0 p0 p1 f1 f2 f3, fun w => ra_in x n w o0 q1' q2 fun w => rf_in x m n k w o0 p0 p1 f1 f7 f9 f10 f11 f12 ?_⟩
        rcases f8 with g | ⟨g1, g2⟩
        · exact .inl g
        · have g1' : ¬ (FloatKind.f64.format.order (floatOfInt .f64 k) m = some .gt) := g1
          exact .inr ⟨by simpa using g1', g2⟩
      · have q2' : FloatKind.f64.format.order x 4607182418800017408 = some .gt ∨ FloatKind.f64.format.order x 4607182418800017408 = some .eq := by
          rcases Int.lt_or_eq_of_le (by omega : T ≤ V) with g | g
          · left; rw [q2, Int.compare_eq_gt.2 g]
          · right; rw [q2, Int.compare_eq_eq.2 g.symm]
        have e : min (max (V * 1048576 / T) 16384) 1048576 = 1048576 := by
          have : 1048576 ≤ V * 1048576 / T := Int.le_ediv_of_mul_le hp (by omega)
          omega
        exact ⟨_, .inr (.inr (.inr ⟨V, h, rfl⟩)), by omega, by omega, fun w => (pa_const x _ w (.inr (.inr ⟨o0, q1', q2', e⟩))).1, fun w => (pa_const x _ w (.inr (.inr ⟨o0, q1', q2', e⟩))).2⟩

/-- A greater float never has a lesser answer. -/
theorem pct_mono {x y : Nat} {n m : Int} {b c : Bool} (hx : PctIs x n b) (hy : PctIs y m c) (hb : b = true) (hc : c = true) (ho : FloatKind.f64.format.order x y = some .lt ∨ FloatKind.f64.format.order x y = some .eq) : n ≤ m := by
  have hp := T_pos
  subst hb hc
  rcases hx with ⟨h, -, -⟩ | ⟨-, h, -, -⟩ | ⟨V, h, h0, rfl, -⟩
  · obtain ⟨s, f, h⟩ := nan_of_order h
    rw [nan_order h] at ho; simp at ho
  · cases h
  · rcases hy with ⟨k, -, -⟩ | ⟨-, k, -, -⟩ | ⟨U, k, k0, rfl, -⟩
    · obtain ⟨s, f, k⟩ := nan_of_order k
      rw [order_nan k] at ho; simp at ho
    · cases k
    · have hle : V ≤ U := by
        rw [ov h k] at ho
        rcases ho with g | g
        · exact Int.le_of_lt (Int.compare_eq_lt.1 (Option.some.inj g))
        · exact Int.le_of_eq (Int.compare_eq_eq.1 (Option.some.inj g))
      exact Int.ediv_le_ediv hp (by omega)

theorem part_mono {x y : Nat} {p q : Int} (hx : PartIs x p) (hy : PartIs y q) (p1 : 16384 ≤ p) (p2 : p ≤ 1048576) (q1 : 16384 ≤ q) (q2 : q ≤ 1048576) (ho : FloatKind.f64.format.order x y = some .lt ∨ FloatKind.f64.format.order x y = some .eq) : p ≤ q := by
  have hp := T_pos
  rcases hx with ⟨h, -⟩ | ⟨-, rfl⟩ | ⟨h, rfl⟩ | ⟨V, h, rfl⟩
  · obtain ⟨s, f, h⟩ := nan_of_order h
    rw [nan_order h] at ho; simp at ho
  · omega
  · rcases hy with ⟨k, -⟩ | ⟨k, -⟩ | ⟨k, rfl⟩ | ⟨U, k, rfl⟩
    · obtain ⟨s, f, k⟩ := nan_of_order k
      rw [order_nan k] at ho; simp at ho
    · have : FloatKind.f64.format.order x y = some .gt := by
        show double.order x y = _
        unfold Format.order; rw [h, k]; rfl
      rw [this] at ho; simp at ho
    · omega
    · rw [inf_order h k] at ho; simp at ho
  · rcases hy with ⟨k, -⟩ | ⟨k, -⟩ | ⟨k, rfl⟩ | ⟨U, k, rfl⟩
    · obtain ⟨s, f, k⟩ := nan_of_order k
      rw [order_nan k] at ho; simp at ho
    · rw [order_inf k h] at ho; simp at ho
    · omega
    · have hle : V ≤ U := by
        rw [ov h k] at ho
        rcases ho with g | g
        · exact Int.le_of_lt (Int.compare_eq_lt.1 (Option.some.inj g))
        · exact Int.le_of_eq (Int.compare_eq_eq.1 (Option.some.inj g))
      have : V * 1048576 / T ≤ U * 1048576 / T := Int.ediv_le_ediv hp (by omega)
      omega

end Go.Proofs.Ytlandgfmdhcjmaa
