/- The document's Less, Same, Least: for all floats. -/
import Derived.Test.YthhgpoihkmokcaaDoorRate31
import Derived.Laws.FloatArith
namespace Go.Proofs.YthhgpoihkmokcaaDoor
open Go.RowKit Ieee
set_option linter.unusedVariables false

/-- A zero of either sign. -/
def zeroB (x : Nat) : Bool := decide (kv x = 0)
theorem kv_zero : kv 0 = 0 := by decide
theorem nan_zero : nanB 0 = false := by decide
theorem zero_is {x : Nat} (hx : nanB x = false) (h : kv x = 0) : FloatKind.f64.format.order x 0 = some .eq := ord_eq hx nan_zero (h.trans kv_zero.symm)
theorem zero_not {x : Nat} (hx : nanB x = false) (h : kv x ≠ 0) : (FloatKind.f64.format.order x 0 == some .eq) = false := by
  rcases Int.lt_trichotomy (kv x) 0 with k | k | k
  · rw [ord_lt hx nan_zero (by rw [kv_zero]; exact k)]; rfl
  · exact absurd k h
  · rw [ord_gt hx nan_zero (by rw [kv_zero]; exact k)]; rfl
theorem rg_zero {x : Nat} (h : kv x = 0) : rg x = 0 := by
  unfold kv at h
  revert h
  cases sg x <;> simp [sgn]
def infW (s : Bool) : Nat := if s then 18442240474082181120 else 9218868437227405312
theorem inv_zero {x : Nat} (h : kv x = 0) : floatBits .quo .f64 4607182418800017408 x = some (infW (sg x)) := by
  have h0 := rg_zero h
  have e : double.read x = .number (sg x) 0 (-1074) := by
    unfold Format.read
    simp only [db_sw, db_bin, db_inf, db_least]
    unfold rg at h0
    rw [h0, if_pos (by omega)]
    rfl
  show Format.div double 4607182418800017408 x = _
  unfold Format.div
  rw [e]
  cases sg x <;> decide +kernel
theorem inf_nan (s : Bool) : nanB (infW s) = false := by cases s <;> decide
theorem kv_inf (s : Bool) : kv (infW s) = if s then -9218868437227405312 else 9218868437227405312 := by cases s <;> decide

theorem key_ge (x : Nat) : -9223372036854775900 ≤ key x := by
  cases h : nanB x
  · have := key_num h; omega
  · rw [key_nan h]; omega
--WALKS
set_option maxHeartbeats 1600000 in
theorem rless_any (w : World) (x y : Nat) (z : Bool) (hz : decide (key x < key y) = z) : Calls Tryd.prog 24 #[.float .f64 x, .float .f64 y] w fun e w' => e = .returned (.bool z) ∧ w = w' := by
  cases hy : nanB y
  · have o2 := ord_self hy
    cases hx : nanB x
    · have o1 := ord_self hx
      by_cases h1 : kv x = 0
      · have o3 := zero_is hx h1
        by_cases h2 : kv y = 0
        · have o4 := zero_is hy h2
          cases s1 : sg x <;> cases s2 : sg y
          · have e : z = false := by rw [← hz, key_eq hx hy (h1.trans h2.symm) (s1.trans s2.symm)]; simp
            subst e
            have i1 := inv_zero h1
            have i2 := inv_zero h2
            rw [s1] at i1
            rw [s2] at i2
            have r1 := fun (w : World) => run_float_arith (P := Tryd.prog) w .quo 23 .f64 4607182418800017408 x _ i1
            have r2 := fun (w : World) => run_float_arith (P := Tryd.prog) w .quo 23 .f64 4607182418800017408 y _ i2
            have o5 : FloatKind.f64.format.order (infW false) (infW false) = some .eq := ord_eq (inf_nan _) (inf_nan _) (by decide)
            clear i1 i2
            clear hz
            go_enter Tryd.func24, Tryd.ntmps24
            go_wp2
            go_ret
            exact ⟨rfl, rfl⟩
          · have e : z = false := by rw [← hz]; have := key_zero hy hx (h2.trans h1.symm) s2 s1; simp; omega
            subst e
            have i1 := inv_zero h1
            have i2 := inv_zero h2
            rw [s1] at i1
            rw [s2] at i2
            have r1 := fun (w : World) => run_float_arith (P := Tryd.prog) w .quo 23 .f64 4607182418800017408 x _ i1
            have r2 := fun (w : World) => run_float_arith (P := Tryd.prog) w .quo 23 .f64 4607182418800017408 y _ i2
            have o5 : FloatKind.f64.format.order (infW false) (infW true) = some .gt := ord_gt (inf_nan _) (inf_nan _) (by decide)
            clear i1 i2
            clear hz
            go_enter Tryd.func24, Tryd.ntmps24
            go_wp2
            go_ret
            exact ⟨rfl, rfl⟩
          · have e : z = true := by rw [← hz]; exact decide_eq_true (key_zero hx hy (h1.trans h2.symm) s1 s2)
            subst e
            have i1 := inv_zero h1
            have i2 := inv_zero h2
            rw [s1] at i1
            rw [s2] at i2
            have r1 := fun (w : World) => run_float_arith (P := Tryd.prog) w .quo 23 .f64 4607182418800017408 x _ i1
            have r2 := fun (w : World) => run_float_arith (P := Tryd.prog) w .quo 23 .f64 4607182418800017408 y _ i2
            have o5 : FloatKind.f64.format.order (infW true) (infW false) = some .lt := ord_lt (inf_nan _) (inf_nan _) (by decide)
            clear i1 i2
            clear hz
            go_enter Tryd.func24, Tryd.ntmps24
            go_wp2
            go_ret
            exact ⟨rfl, rfl⟩
          · have e : z = false := by rw [← hz, key_eq hx hy (h1.trans h2.symm) (s1.trans s2.symm)]; simp
            subst e
            have i1 := inv_zero h1
            have i2 := inv_zero h2
            rw [s1] at i1
            rw [s2] at i2
            have r1 := fun (w : World) => run_float_arith (P := Tryd.prog) w .quo 23 .f64 4607182418800017408 x _ i1
            have r2 := fun (w : World) => run_float_arith (P := Tryd.prog) w .quo 23 .f64 4607182418800017408 y _ i2
            have o5 : FloatKind.f64.format.order (infW true) (infW true) = some .eq := ord_eq (inf_nan _) (inf_nan _) (by decide)
            clear i1 i2
            clear hz
            go_enter Tryd.func24, Tryd.ntmps24
            go_wp2
            go_ret
            exact ⟨rfl, rfl⟩
        · rcases Int.lt_trichotomy (kv y) 0 with k | k | k
          · have e : z = false := by rw [← hz]; have := key_lt hy hx (by omega); simp; omega
            subst e
            have o4 := ord_lt hy nan_zero (by rw [kv_zero]; exact k)
            have o5 := ord_gt hx hy (by omega)
            clear hz
            go_enter Tryd.func24, Tryd.ntmps24
            go_wp2
            go_ret
            exact ⟨rfl, rfl⟩
          · exact absurd k h2
          · have e : z = true := by rw [← hz]; exact decide_eq_true (key_lt hx hy (by omega))
            subst e
            have o4 := ord_gt hy nan_zero (by rw [kv_zero]; exact k)
            have o5 := ord_lt hx hy (by omega)
            clear hz
            go_enter Tryd.func24, Tryd.ntmps24
            go_wp2
            go_ret
            exact ⟨rfl, rfl⟩
      · have o3 : FloatKind.f64.format.order x 0 = some .lt ∨ FloatKind.f64.format.order x 0 = some .gt := by
          rcases Int.lt_trichotomy (kv x) 0 with k | k | k
          · exact .inl (ord_lt hx nan_zero (by rw [kv_zero]; exact k))
          · exact absurd k h1
          · exact .inr (ord_gt hx nan_zero (by rw [kv_zero]; exact k))
        rcases o3 with o3 | o3 <;> rcases Int.lt_trichotomy (kv x) (kv y) with h | h | h
        · have e : z = true := by rw [← hz]; exact decide_eq_true (key_lt hx hy h)
          subst e
          have o5 := ord_lt hx hy h
          clear hz
          go_enter Tryd.func24, Tryd.ntmps24
          go_wp2
          go_ret
          exact ⟨rfl, rfl⟩
        · have e : z = false := by rw [← hz, key_eq hx hy h (kv_sg h h1)]; simp
          subst e
          have o5 := ord_eq hx hy h
          clear hz
          go_enter Tryd.func24, Tryd.ntmps24
          go_wp2
          go_ret
          exact ⟨rfl, rfl⟩
        · have e : z = false := by rw [← hz]; have := key_lt hy hx h; simp; omega
          subst e
          have o5 := ord_gt hx hy h
          clear hz
          go_enter Tryd.func24, Tryd.ntmps24
          go_wp2
          go_ret
          exact ⟨rfl, rfl⟩
        · have e : z = true := by rw [← hz]; exact decide_eq_true (key_lt hx hy h)
          subst e
          have o5 := ord_lt hx hy h
          clear hz
          go_enter Tryd.func24, Tryd.ntmps24
          go_wp2
          go_ret
          exact ⟨rfl, rfl⟩
        · have e : z = false := by rw [← hz, key_eq hx hy h (kv_sg h h1)]; simp
          subst e
          have o5 := ord_eq hx hy h
          clear hz
          go_enter Tryd.func24, Tryd.ntmps24
          go_wp2
          go_ret
          exact ⟨rfl, rfl⟩
        · have e : z = false := by rw [← hz]; have := key_lt hy hx h; simp; omega
          subst e
          have o5 := ord_gt hx hy h
          clear hz
          go_enter Tryd.func24, Tryd.ntmps24
          go_wp2
          go_ret
          exact ⟨rfl, rfl⟩
    · have e : z = true := by rw [← hz, key_nan hx]; have := key_num hy; simp; omega
      subst e
      have o1 := ord_nanl (y := x) hx
      clear hz
      go_enter Tryd.func24, Tryd.ntmps24
      go_wp2
      go_ret
      exact ⟨rfl, rfl⟩
  · have e : z = false := by rw [← hz, key_nan hy]; have := key_ge x; simp; omega
    subst e
    have o2 := ord_nanl (y := y) hy
    clear hz
    go_enter Tryd.func24, Tryd.ntmps24
    go_wp2
    go_ret
    exact ⟨rfl, rfl⟩

set_option maxHeartbeats 1600000 in
theorem same_any (w : World) (x y : Nat) (z : Bool) (hz : decide (key x = key y) = z) : Calls Tryd.prog 12 #[.float .f64 x, .float .f64 y] w fun e w' => e = .returned (.bool z) ∧ w = w' := by
  cases hx : nanB x <;> cases hy : nanB y
  · have o1 := ord_self hx
    have o2 := ord_self hy
    rcases Int.lt_trichotomy (kv x) (kv y) with h | h | h
    · have e : z = false := by rw [← hz]; have := key_lt hx hy h; simp; omega
      subst e
      have o3 := ord_lt hx hy h
      clear hz
      go_enter Tryd.func12, Tryd.ntmps12
      go_wp2
      go_ret
      exact ⟨rfl, rfl⟩
    · have o3 := ord_eq hx hy h
      by_cases h1 : kv x = 0
      · have h2 : kv y = 0 := h ▸ h1
        have o4 := zero_is hx h1
        cases s1 : sg x <;> cases s2 : sg y
        · have e : z = true := by rw [← hz]; exact decide_eq_true (key_eq hx hy h (s1.trans s2.symm))
          subst e
          have i1 := inv_zero h1
          have i2 := inv_zero h2
          rw [s1] at i1
          rw [s2] at i2
          have r1 := fun (w : World) => run_float_arith (P := Tryd.prog) w .quo 23 .f64 4607182418800017408 x _ i1
          have r2 := fun (w : World) => run_float_arith (P := Tryd.prog) w .quo 23 .f64 4607182418800017408 y _ i2
          have o5 : FloatKind.f64.format.order (infW false) (infW false) = some .eq := ord_eq (inf_nan _) (inf_nan _) (by decide)
          clear i1 i2
          clear hz
          go_enter Tryd.func12, Tryd.ntmps12
          go_wp2
          go_ret
          exact ⟨rfl, rfl⟩
        · have e : z = false := by rw [← hz]; have := key_zero hy hx h.symm s2 s1; simp; omega
          subst e
          have i1 := inv_zero h1
          have i2 := inv_zero h2
          rw [s1] at i1
          rw [s2] at i2
          have r1 := fun (w : World) => run_float_arith (P := Tryd.prog) w .quo 23 .f64 4607182418800017408 x _ i1
          have r2 := fun (w : World) => run_float_arith (P := Tryd.prog) w .quo 23 .f64 4607182418800017408 y _ i2
          have o5 : FloatKind.f64.format.order (infW false) (infW true) = some .gt := ord_gt (inf_nan _) (inf_nan _) (by decide)
          clear i1 i2
          clear hz
          go_enter Tryd.func12, Tryd.ntmps12
          go_wp2
          go_ret
          exact ⟨rfl, rfl⟩
        · have e : z = false := by rw [← hz]; have := key_zero hx hy h s1 s2; simp; omega
          subst e
          have i1 := inv_zero h1
          have i2 := inv_zero h2
          rw [s1] at i1
          rw [s2] at i2
          have r1 := fun (w : World) => run_float_arith (P := Tryd.prog) w .quo 23 .f64 4607182418800017408 x _ i1
          have r2 := fun (w : World) => run_float_arith (P := Tryd.prog) w .quo 23 .f64 4607182418800017408 y _ i2
          have o5 : FloatKind.f64.format.order (infW true) (infW false) = some .lt := ord_lt (inf_nan _) (inf_nan _) (by decide)
          clear i1 i2
          clear hz
          go_enter Tryd.func12, Tryd.ntmps12
          go_wp2
          go_ret
          exact ⟨rfl, rfl⟩
        · have e : z = true := by rw [← hz]; exact decide_eq_true (key_eq hx hy h (s1.trans s2.symm))
          subst e
          have i1 := inv_zero h1
          have i2 := inv_zero h2
          rw [s1] at i1
          rw [s2] at i2
          have r1 := fun (w : World) => run_float_arith (P := Tryd.prog) w .quo 23 .f64 4607182418800017408 x _ i1
          have r2 := fun (w : World) => run_float_arith (P := Tryd.prog) w .quo 23 .f64 4607182418800017408 y _ i2
          have o5 : FloatKind.f64.format.order (infW true) (infW true) = some .eq := ord_eq (inf_nan _) (inf_nan _) (by decide)
          clear i1 i2
          clear hz
          go_enter Tryd.func12, Tryd.ntmps12
          go_wp2
          go_ret
          exact ⟨rfl, rfl⟩
      · rcases Int.lt_trichotomy (kv x) 0 with k | k | k
        · have e : z = true := by rw [← hz]; exact decide_eq_true (key_eq hx hy h (kv_sg h h1))
          subst e
          have o4 := ord_lt hx nan_zero (by rw [kv_zero]; exact k)
          clear hz
          go_enter Tryd.func12, Tryd.ntmps12
          go_wp2
          go_ret
          exact ⟨rfl, rfl⟩
        · exact absurd k h1
        · have e : z = true := by rw [← hz]; exact decide_eq_true (key_eq hx hy h (kv_sg h h1))
          subst e
          have o4 := ord_gt hx nan_zero (by rw [kv_zero]; exact k)
          clear hz
          go_enter Tryd.func12, Tryd.ntmps12
          go_wp2
          go_ret
          exact ⟨rfl, rfl⟩
    · have e : z = false := by rw [← hz]; have := key_lt hy hx h; simp; omega
      subst e
      have o3 := ord_gt hx hy h
      clear hz
      go_enter Tryd.func12, Tryd.ntmps12
      go_wp2
      go_ret
      exact ⟨rfl, rfl⟩
  · have e : z = false := by rw [← hz, key_nan hy]; have := key_num hx; simp; omega
    subst e
    have o1 := ord_self hx
    have o2 := ord_nanl (y := y) hy
    have o3 := ord_nanr (x := x) hy
    clear hz
    go_enter Tryd.func12, Tryd.ntmps12
    go_wp2
    go_ret
    exact ⟨rfl, rfl⟩
  · have e : z = false := by rw [← hz, key_nan hx]; have := key_num hy; simp; omega
    subst e
    have o1 := ord_nanl (y := x) hx
    have o2 := ord_self hy
    have o3 := ord_nanl (y := y) hx
    clear hz
    go_enter Tryd.func12, Tryd.ntmps12
    go_wp2
    go_ret
    exact ⟨rfl, rfl⟩
  · have e : z = true := by rw [← hz, key_nan hx, key_nan hy]; simp
    subst e
    have o1 := ord_nanl (y := x) hx
    have o2 := ord_nanl (y := y) hy
    clear hz
    go_enter Tryd.func12, Tryd.ntmps12
    go_wp2
    go_ret
    exact ⟨rfl, rfl⟩

end Go.Proofs.YthhgpoihkmokcaaDoor
