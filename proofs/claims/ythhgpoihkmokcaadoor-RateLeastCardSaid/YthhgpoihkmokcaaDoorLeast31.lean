/- RateLeast. -/
import Derived.Test.YthhgpoihkmokcaaDoorTold31
namespace Go.Proofs.YthhgpoihkmokcaaDoor
open Go.RowKit Ieee
set_option linter.unusedVariables false

theorem not_zero {x : Nat} (hx : nanB x = false) (h : kv x ≠ 0) : FloatKind.f64.format.order x 0 = some .lt ∨ FloatKind.f64.format.order x 0 = some .gt := by
  rcases Int.lt_trichotomy (kv x) 0 with k | k | k
  · exact .inl (ord_lt hx nan_zero (by rw [kv_zero]; exact k))
  · exact absurd k h
  · exact .inr (ord_gt hx nan_zero (by rw [kv_zero]; exact k))
theorem inf_lt : FloatKind.f64.format.order (infW true) 0 = some .lt := ord_lt (inf_nan _) nan_zero (by decide)
theorem inf_gt : FloatKind.f64.format.order (infW false) 0 = some .gt := ord_gt (inf_nan _) nan_zero (by decide)
theorem ge_kv {x y : Nat} (hx : nanB x = false) (hy : nanB y = false) (h : key y ≤ key x) : FloatKind.f64.format.order x y = some .gt ∨ FloatKind.f64.format.order x y = some .eq := by
  rcases Int.lt_trichotomy (kv x) (kv y) with k | k | k
  · have := key_lt hx hy k; omega
  · exact .inr (ord_eq hx hy k)
  · exact .inl (ord_gt hx hy k)

set_option maxHeartbeats 6400000 in
theorem walk_RateLeast (a b : Nat) (w : World) : Calls Tryd.prog 6 #[.float .f64 a, .float .f64 b] w fun e w' => e = .returned (.bool true) ∧ Ex w w' := by
  cases ha : nanB a <;> cases hb : nanB b
  · have oa := ord_self ha
    have ob := ord_self hb
    rcases Int.lt_trichotomy (key a) (key b) with h | h | h
    · have h1 : Hid (leastW a b = a) := Lib.hid (by unfold leastW; rw [if_pos (.inr ⟨ha, h⟩)])
      have h2 : Hid (leastW b a = a) := Lib.hid (by unfold leastW; rw [if_neg (by rw [ha]; simp; omega)])
      have k1 := Lib.hid (fun w => same_any w a a true (by simp))
      have k2 := Lib.hid (fun w => same_any w a a true (by simp))
      have o3 := ge_kv hb ha (show key a ≤ key b by omega)
      by_cases za : kv a = 0
      · have oza := zero_is ha za
        by_cases zb : kv b = 0
        · have ozb := zero_is hb zb
          have qa := inv_zero za
          have qb := inv_zero zb
          have i1 := inf_lt
          have i2 := inf_gt
          have sg2 : sg a = true ∧ sg b = false := by
            rw [key_is ha, key_is hb, rg_zero za, rg_zero zb] at h
            revert h
            cases sg a <;> cases sg b <;> simp
          rw [sg2.1] at qa
          rw [sg2.2] at qb
          rcases o3 with o3 | o3
          · have ra := fun (w : World) => run_float_arith (P := Tryd.prog) w .quo 23 .f64 4607182418800017408 a _ qa
            have rb := fun (w : World) => run_float_arith (P := Tryd.prog) w .quo 23 .f64 4607182418800017408 b _ qb
            clear qa qb sg2 h za zb
            go_enter Tryd.func6, Tryd.ntmps6
            go_wp2_with fail
            refine (least_any w a b a h1.out).mono ?_
            rintro e w' ⟨rfl, rfl⟩
            go_wp2_with fail
            refine (least_any w b a a h2.out).mono ?_
            rintro e w' ⟨rfl, rfl⟩
            go_wp2_with fail
            refine (k1.out w).mono ?_
            rintro e w' ⟨rfl, rfl⟩
            go_wp2_with fail
            refine (k2.out w).mono ?_
            rintro e w' ⟨rfl, rfl⟩
            go_wp2_with fail
            refine (told_any w).mono ?_
            rintro e w4 ⟨rfl, hx⟩
            go_wp2_with fail
            go_ret
            exact ⟨rfl, hx⟩
          · have ra := fun (w : World) => run_float_arith (P := Tryd.prog) w .quo 23 .f64 4607182418800017408 a _ qa
            have rb := fun (w : World) => run_float_arith (P := Tryd.prog) w .quo 23 .f64 4607182418800017408 b _ qb
            clear qa qb sg2 h za zb
            go_enter Tryd.func6, Tryd.ntmps6
            go_wp2_with fail
            refine (least_any w a b a h1.out).mono ?_
            rintro e w' ⟨rfl, rfl⟩
            go_wp2_with fail
            refine (least_any w b a a h2.out).mono ?_
            rintro e w' ⟨rfl, rfl⟩
            go_wp2_with fail
            refine (k1.out w).mono ?_
            rintro e w' ⟨rfl, rfl⟩
            go_wp2_with fail
            refine (k2.out w).mono ?_
            rintro e w' ⟨rfl, rfl⟩
            go_wp2_with fail
            refine (told_any w).mono ?_
            rintro e w4 ⟨rfl, hx⟩
            go_wp2_with fail
            go_ret
            exact ⟨rfl, hx⟩
        · have ozb := not_zero hb zb
          clear h za zb
          rcases o3 with o3 | o3 <;> rcases ozb with ozb | ozb
          · go_enter Tryd.func6, Tryd.ntmps6
            go_wp2_with fail
            refine (least_any w a b a h1.out).mono ?_
            rintro e w' ⟨rfl, rfl⟩
            go_wp2_with fail
            refine (least_any w b a a h2.out).mono ?_
            rintro e w' ⟨rfl, rfl⟩
            go_wp2_with fail
            refine (k1.out w).mono ?_
            rintro e w' ⟨rfl, rfl⟩
            go_wp2_with fail
            refine (k2.out w).mono ?_
            rintro e w' ⟨rfl, rfl⟩
            go_wp2_with fail
            refine (told_any w).mono ?_
            rintro e w4 ⟨rfl, hx⟩
            go_wp2_with fail
            go_ret
            exact ⟨rfl, hx⟩
          · go_enter Tryd.func6, Tryd.ntmps6
            go_wp2_with fail
            refine (least_any w a b a h1.out).mono ?_
            rintro e w' ⟨rfl, rfl⟩
            go_wp2_with fail
            refine (least_any w b a a h2.out).mono ?_
            rintro e w' ⟨rfl, rfl⟩
            go_wp2_with fail
            refine (k1.out w).mono ?_
            rintro e w' ⟨rfl, rfl⟩
            go_wp2_with fail
            refine (k2.out w).mono ?_
            rintro e w' ⟨rfl, rfl⟩
            go_wp2_with fail
            refine (told_any w).mono ?_
            rintro e w4 ⟨rfl, hx⟩
            go_wp2_with fail
            go_ret
            exact ⟨rfl, hx⟩
          · go_enter Tryd.func6, Tryd.ntmps6
            go_wp2_with fail
            refine (least_any w a b a h1.out).mono ?_
            rintro e w' ⟨rfl, rfl⟩
            go_wp2_with fail
            refine (least_any w b a a h2.out).mono ?_
            rintro e w' ⟨rfl, rfl⟩
            go_wp2_with fail
            refine (k1.out w).mono ?_
            rintro e w' ⟨rfl, rfl⟩
            go_wp2_with fail
            refine (k2.out w).mono ?_
            rintro e w' ⟨rfl, rfl⟩
            go_wp2_with fail
            refine (told_any w).mono ?_
            rintro e w4 ⟨rfl, hx⟩
            go_wp2_with fail
            go_ret
            exact ⟨rfl, hx⟩
          · go_enter Tryd.func6, Tryd.ntmps6
            go_wp2_with fail
            refine (least_any w a b a h1.out).mono ?_
            rintro e w' ⟨rfl, rfl⟩
            go_wp2_with fail
            refine (least_any w b a a h2.out).mono ?_
            rintro e w' ⟨rfl, rfl⟩
            go_wp2_with fail
            refine (k1.out w).mono ?_
            rintro e w' ⟨rfl, rfl⟩
            go_wp2_with fail
            refine (k2.out w).mono ?_
            rintro e w' ⟨rfl, rfl⟩
            go_wp2_with fail
            refine (told_any w).mono ?_
            rintro e w4 ⟨rfl, hx⟩
            go_wp2_with fail
            go_ret
            exact ⟨rfl, hx⟩
      · have oza := not_zero ha za
        clear h za
        rcases o3 with o3 | o3 <;> rcases oza with oza | oza
        · go_enter Tryd.func6, Tryd.ntmps6
          go_wp2_with fail
          refine (least_any w a b a h1.out).mono ?_
          rintro e w' ⟨rfl, rfl⟩
          go_wp2_with fail
          refine (least_any w b a a h2.out).mono ?_
          rintro e w' ⟨rfl, rfl⟩
          go_wp2_with fail
          refine (k1.out w).mono ?_
          rintro e w' ⟨rfl, rfl⟩
          go_wp2_with fail
          refine (k2.out w).mono ?_
          rintro e w' ⟨rfl, rfl⟩
          go_wp2_with fail
          refine (told_any w).mono ?_
          rintro e w4 ⟨rfl, hx⟩
          go_wp2_with fail
          go_ret
          exact ⟨rfl, hx⟩
        · go_enter Tryd.func6, Tryd.ntmps6
          go_wp2_with fail
          refine (least_any w a b a h1.out).mono ?_
          rintro e w' ⟨rfl, rfl⟩
          go_wp2_with fail
          refine (least_any w b a a h2.out).mono ?_
          rintro e w' ⟨rfl, rfl⟩
          go_wp2_with fail
          refine (k1.out w).mono ?_
          rintro e w' ⟨rfl, rfl⟩
          go_wp2_with fail
          refine (k2.out w).mono ?_
          rintro e w' ⟨rfl, rfl⟩
          go_wp2_with fail
          refine (told_any w).mono ?_
          rintro e w4 ⟨rfl, hx⟩
          go_wp2_with fail
          go_ret
          exact ⟨rfl, hx⟩
        · go_enter Tryd.func6, Tryd.ntmps6
          go_wp2_with fail
          refine (least_any w a b a h1.out).mono ?_
          rintro e w' ⟨rfl, rfl⟩
          go_wp2_with fail
          refine (least_any w b a a h2.out).mono ?_
          rintro e w' ⟨rfl, rfl⟩
          go_wp2_with fail
          refine (k1.out w).mono ?_
          rintro e w' ⟨rfl, rfl⟩
          go_wp2_with fail
          refine (k2.out w).mono ?_
          rintro e w' ⟨rfl, rfl⟩
          go_wp2_with fail
          refine (told_any w).mono ?_
          rintro e w4 ⟨rfl, hx⟩
          go_wp2_with fail
          go_ret
          exact ⟨rfl, hx⟩
        · go_enter Tryd.func6, Tryd.ntmps6
          go_wp2_with fail
          refine (least_any w a b a h1.out).mono ?_
          rintro e w' ⟨rfl, rfl⟩
          go_wp2_with fail
          refine (least_any w b a a h2.out).mono ?_
          rintro e w' ⟨rfl, rfl⟩
          go_wp2_with fail
          refine (k1.out w).mono ?_
          rintro e w' ⟨rfl, rfl⟩
          go_wp2_with fail
          refine (k2.out w).mono ?_
          rintro e w' ⟨rfl, rfl⟩
          go_wp2_with fail
          refine (told_any w).mono ?_
          rintro e w4 ⟨rfl, hx⟩
          go_wp2_with fail
          go_ret
          exact ⟨rfl, hx⟩
    · have h1 : Hid (leastW a b = b) := Lib.hid (by unfold leastW; rw [if_neg (by rw [hb, h]; simp)])
      have h2 : Hid (leastW b a = a) := Lib.hid (by unfold leastW; rw [if_neg (by rw [ha, h]; simp)])
      have k1 := Lib.hid (fun w => same_any w b a true (by simp [h]))
      have k2 := Lib.hid (fun w => same_any w b a true (by simp [h]))
      have o3 := ge_kv ha hb (show key b ≤ key a by omega)
      by_cases za : kv a = 0
      · have oza := zero_is ha za
        by_cases zb : kv b = 0
        · have ozb := zero_is hb zb
          have qa := inv_zero za
          have qb := inv_zero zb
          have i1 := inf_lt
          have i2 := inf_gt
          have sg2 : sg a = sg b := by
            rw [key_is ha, key_is hb, rg_zero za, rg_zero zb] at h
            revert h
            cases sg a <;> cases sg b <;> simp
          rw [sg2] at qa
          rcases o3 with o3 | o3 <;> cases sb : sg b
          · rw [sb] at qa qb
            have ra := fun (w : World) => run_float_arith (P := Tryd.prog) w .quo 23 .f64 4607182418800017408 a _ qa
            have rb := fun (w : World) => run_float_arith (P := Tryd.prog) w .quo 23 .f64 4607182418800017408 b _ qb
            clear qa qb sg2 h za zb
            go_enter Tryd.func6, Tryd.ntmps6
            go_wp2_with fail
            refine (least_any w a b b h1.out).mono ?_
            rintro e w' ⟨rfl, rfl⟩
            go_wp2_with fail
            refine (least_any w b a a h2.out).mono ?_
            rintro e w' ⟨rfl, rfl⟩
            go_wp2_with fail
            refine (k1.out w).mono ?_
            rintro e w' ⟨rfl, rfl⟩
            go_wp2_with fail
            refine (k2.out w).mono ?_
            rintro e w' ⟨rfl, rfl⟩
            go_wp2_with fail
            refine (told_any w).mono ?_
            rintro e w4 ⟨rfl, hx⟩
            go_wp2_with fail
            go_ret
            exact ⟨rfl, hx⟩
          · rw [sb] at qa qb
            have ra := fun (w : World) => run_float_arith (P := Tryd.prog) w .quo 23 .f64 4607182418800017408 a _ qa
            have rb := fun (w : World) => run_float_arith (P := Tryd.prog) w .quo 23 .f64 4607182418800017408 b _ qb
            clear qa qb sg2 h za zb
            go_enter Tryd.func6, Tryd.ntmps6
            go_wp2_with fail
            refine (least_any w a b b h1.out).mono ?_
            rintro e w' ⟨rfl, rfl⟩
            go_wp2_with fail
            refine (least_any w b a a h2.out).mono ?_
            rintro e w' ⟨rfl, rfl⟩
            go_wp2_with fail
            refine (k1.out w).mono ?_
            rintro e w' ⟨rfl, rfl⟩
            go_wp2_with fail
            refine (k2.out w).mono ?_
            rintro e w' ⟨rfl, rfl⟩
            go_wp2_with fail
            refine (told_any w).mono ?_
            rintro e w4 ⟨rfl, hx⟩
            go_wp2_with fail
            go_ret
            exact ⟨rfl, hx⟩
          · rw [sb] at qa qb
            have ra := fun (w : World) => run_float_arith (P := Tryd.prog) w .quo 23 .f64 4607182418800017408 a _ qa
            have rb := fun (w : World) => run_float_arith (P := Tryd.prog) w .quo 23 .f64 4607182418800017408 b _ qb
            clear qa qb sg2 h za zb
            go_enter Tryd.func6, Tryd.ntmps6
            go_wp2_with fail
            refine (least_any w a b b h1.out).mono ?_
            rintro e w' ⟨rfl, rfl⟩
            go_wp2_with fail
            refine (least_any w b a a h2.out).mono ?_
            rintro e w' ⟨rfl, rfl⟩
            go_wp2_with fail
            refine (k1.out w).mono ?_
            rintro e w' ⟨rfl, rfl⟩
            go_wp2_with fail
            refine (k2.out w).mono ?_
            rintro e w' ⟨rfl, rfl⟩
            go_wp2_with fail
            refine (told_any w).mono ?_
            rintro e w4 ⟨rfl, hx⟩
            go_wp2_with fail
            go_ret
            exact ⟨rfl, hx⟩
          · rw [sb] at qa qb
            have ra := fun (w : World) => run_float_arith (P := Tryd.prog) w .quo 23 .f64 4607182418800017408 a _ qa
            have rb := fun (w : World) => run_float_arith (P := Tryd.prog) w .quo 23 .f64 4607182418800017408 b _ qb
            clear qa qb sg2 h za zb
            go_enter Tryd.func6, Tryd.ntmps6
            go_wp2_with fail
            refine (least_any w a b b h1.out).mono ?_
            rintro e w' ⟨rfl, rfl⟩
            go_wp2_with fail
            refine (least_any w b a a h2.out).mono ?_
            rintro e w' ⟨rfl, rfl⟩
            go_wp2_with fail
            refine (k1.out w).mono ?_
            rintro e w' ⟨rfl, rfl⟩
            go_wp2_with fail
            refine (k2.out w).mono ?_
            rintro e w' ⟨rfl, rfl⟩
            go_wp2_with fail
            refine (told_any w).mono ?_
            rintro e w4 ⟨rfl, hx⟩
            go_wp2_with fail
            go_ret
            exact ⟨rfl, hx⟩
        · have ozb := not_zero hb zb
          clear h za zb
          rcases o3 with o3 | o3 <;> rcases ozb with ozb | ozb
          · go_enter Tryd.func6, Tryd.ntmps6
            go_wp2_with fail
            refine (least_any w a b b h1.out).mono ?_
            rintro e w' ⟨rfl, rfl⟩
            go_wp2_with fail
            refine (least_any w b a a h2.out).mono ?_
            rintro e w' ⟨rfl, rfl⟩
            go_wp2_with fail
            refine (k1.out w).mono ?_
            rintro e w' ⟨rfl, rfl⟩
            go_wp2_with fail
            refine (k2.out w).mono ?_
            rintro e w' ⟨rfl, rfl⟩
            go_wp2_with fail
            refine (told_any w).mono ?_
            rintro e w4 ⟨rfl, hx⟩
            go_wp2_with fail
            go_ret
            exact ⟨rfl, hx⟩
          · go_enter Tryd.func6, Tryd.ntmps6
            go_wp2_with fail
            refine (least_any w a b b h1.out).mono ?_
            rintro e w' ⟨rfl, rfl⟩
            go_wp2_with fail
            refine (least_any w b a a h2.out).mono ?_
            rintro e w' ⟨rfl, rfl⟩
            go_wp2_with fail
            refine (k1.out w).mono ?_
            rintro e w' ⟨rfl, rfl⟩
            go_wp2_with fail
            refine (k2.out w).mono ?_
            rintro e w' ⟨rfl, rfl⟩
            go_wp2_with fail
            refine (told_any w).mono ?_
            rintro e w4 ⟨rfl, hx⟩
            go_wp2_with fail
            go_ret
            exact ⟨rfl, hx⟩
          · go_enter Tryd.func6, Tryd.ntmps6
            go_wp2_with fail
            refine (least_any w a b b h1.out).mono ?_
            rintro e w' ⟨rfl, rfl⟩
            go_wp2_with fail
            refine (least_any w b a a h2.out).mono ?_
            rintro e w' ⟨rfl, rfl⟩
            go_wp2_with fail
            refine (k1.out w).mono ?_
            rintro e w' ⟨rfl, rfl⟩
            go_wp2_with fail
            refine (k2.out w).mono ?_
            rintro e w' ⟨rfl, rfl⟩
            go_wp2_with fail
            refine (told_any w).mono ?_
            rintro e w4 ⟨rfl, hx⟩
            go_wp2_with fail
            go_ret
            exact ⟨rfl, hx⟩
          · go_enter Tryd.func6, Tryd.ntmps6
            go_wp2_with fail
            refine (least_any w a b b h1.out).mono ?_
            rintro e w' ⟨rfl, rfl⟩
            go_wp2_with fail
            refine (least_any w b a a h2.out).mono ?_
            rintro e w' ⟨rfl, rfl⟩
            go_wp2_with fail
            refine (k1.out w).mono ?_
            rintro e w' ⟨rfl, rfl⟩
            go_wp2_with fail
            refine (k2.out w).mono ?_
            rintro e w' ⟨rfl, rfl⟩
            go_wp2_with fail
            refine (told_any w).mono ?_
            rintro e w4 ⟨rfl, hx⟩
            go_wp2_with fail
            go_ret
            exact ⟨rfl, hx⟩
      · have oza := not_zero ha za
        clear h za
        rcases o3 with o3 | o3 <;> rcases oza with oza | oza
        · go_enter Tryd.func6, Tryd.ntmps6
          go_wp2_with fail
          refine (least_any w a b b h1.out).mono ?_
          rintro e w' ⟨rfl, rfl⟩
          go_wp2_with fail
          refine (least_any w b a a h2.out).mono ?_
          rintro e w' ⟨rfl, rfl⟩
          go_wp2_with fail
          refine (k1.out w).mono ?_
          rintro e w' ⟨rfl, rfl⟩
          go_wp2_with fail
          refine (k2.out w).mono ?_
          rintro e w' ⟨rfl, rfl⟩
          go_wp2_with fail
          refine (told_any w).mono ?_
          rintro e w4 ⟨rfl, hx⟩
          go_wp2_with fail
          go_ret
          exact ⟨rfl, hx⟩
        · go_enter Tryd.func6, Tryd.ntmps6
          go_wp2_with fail
          refine (least_any w a b b h1.out).mono ?_
          rintro e w' ⟨rfl, rfl⟩
          go_wp2_with fail
          refine (least_any w b a a h2.out).mono ?_
          rintro e w' ⟨rfl, rfl⟩
          go_wp2_with fail
          refine (k1.out w).mono ?_
          rintro e w' ⟨rfl, rfl⟩
          go_wp2_with fail
          refine (k2.out w).mono ?_
          rintro e w' ⟨rfl, rfl⟩
          go_wp2_with fail
          refine (told_any w).mono ?_
          rintro e w4 ⟨rfl, hx⟩
          go_wp2_with fail
          go_ret
          exact ⟨rfl, hx⟩
        · go_enter Tryd.func6, Tryd.ntmps6
          go_wp2_with fail
          refine (least_any w a b b h1.out).mono ?_
          rintro e w' ⟨rfl, rfl⟩
          go_wp2_with fail
          refine (least_any w b a a h2.out).mono ?_
          rintro e w' ⟨rfl, rfl⟩
          go_wp2_with fail
          refine (k1.out w).mono ?_
          rintro e w' ⟨rfl, rfl⟩
          go_wp2_with fail
          refine (k2.out w).mono ?_
          rintro e w' ⟨rfl, rfl⟩
          go_wp2_with fail
          refine (told_any w).mono ?_
          rintro e w4 ⟨rfl, hx⟩
          go_wp2_with fail
          go_ret
          exact ⟨rfl, hx⟩
        · go_enter Tryd.func6, Tryd.ntmps6
          go_wp2_with fail
          refine (least_any w a b b h1.out).mono ?_
          rintro e w' ⟨rfl, rfl⟩
          go_wp2_with fail
          refine (least_any w b a a h2.out).mono ?_
          rintro e w' ⟨rfl, rfl⟩
          go_wp2_with fail
          refine (k1.out w).mono ?_
          rintro e w' ⟨rfl, rfl⟩
          go_wp2_with fail
          refine (k2.out w).mono ?_
          rintro e w' ⟨rfl, rfl⟩
          go_wp2_with fail
          refine (told_any w).mono ?_
          rintro e w4 ⟨rfl, hx⟩
          go_wp2_with fail
          go_ret
          exact ⟨rfl, hx⟩
    · have h1 : Hid (leastW a b = b) := Lib.hid (by unfold leastW; rw [if_neg (by rw [hb]; simp; omega)])
      have h2 : Hid (leastW b a = b) := Lib.hid (by unfold leastW; rw [if_pos (.inr ⟨hb, h⟩)])
      have k1 := Lib.hid (fun w => same_any w b b true (by simp))
      have k2 := Lib.hid (fun w => same_any w b a false (by simp; omega))
      have k3 := Lib.hid (fun w => same_any w b b true (by simp))
      have o3 := ge_kv ha hb (show key b ≤ key a by omega)
      by_cases za : kv a = 0
      · have oza := zero_is ha za
        by_cases zb : kv b = 0
        · have ozb := zero_is hb zb
          have qa := inv_zero za
          have qb := inv_zero zb
          have i1 := inf_lt
          have i2 := inf_gt
          have sg2 : sg a = false ∧ sg b = true := by
            rw [key_is ha, key_is hb, rg_zero za, rg_zero zb] at h
            revert h
            cases sg a <;> cases sg b <;> simp
          rw [sg2.1] at qa
          rw [sg2.2] at qb
          rcases o3 with o3 | o3
          · have ra := fun (w : World) => run_float_arith (P := Tryd.prog) w .quo 23 .f64 4607182418800017408 a _ qa
            have rb := fun (w : World) => run_float_arith (P := Tryd.prog) w .quo 23 .f64 4607182418800017408 b _ qb
            clear qa qb sg2 h za zb
            go_enter Tryd.func6, Tryd.ntmps6
            go_wp2_with fail
            refine (least_any w a b b h1.out).mono ?_
            rintro e w' ⟨rfl, rfl⟩
            go_wp2_with fail
            refine (least_any w b a b h2.out).mono ?_
            rintro e w' ⟨rfl, rfl⟩
            go_wp2_with fail
            refine (k1.out w).mono ?_
            rintro e w' ⟨rfl, rfl⟩
            go_wp2_with fail
            refine (k2.out w).mono ?_
            rintro e w' ⟨rfl, rfl⟩
            go_wp2_with fail
            refine (k3.out w).mono ?_
            rintro e w' ⟨rfl, rfl⟩
            go_wp2_with fail
            refine (told_any w).mono ?_
            rintro e w4 ⟨rfl, hx⟩
            go_wp2_with fail
            go_ret
            exact ⟨rfl, hx⟩
          · have ra := fun (w : World) => run_float_arith (P := Tryd.prog) w .quo 23 .f64 4607182418800017408 a _ qa
            have rb := fun (w : World) => run_float_arith (P := Tryd.prog) w .quo 23 .f64 4607182418800017408 b _ qb
            clear qa qb sg2 h za zb
            go_enter Tryd.func6, Tryd.ntmps6
            go_wp2_with fail
            refine (least_any w a b b h1.out).mono ?_
            rintro e w' ⟨rfl, rfl⟩
            go_wp2_with fail
            refine (least_any w b a b h2.out).mono ?_
            rintro e w' ⟨rfl, rfl⟩
            go_wp2_with fail
            refine (k1.out w).mono ?_
            rintro e w' ⟨rfl, rfl⟩
            go_wp2_with fail
            refine (k2.out w).mono ?_
            rintro e w' ⟨rfl, rfl⟩
            go_wp2_with fail
            refine (k3.out w).mono ?_
            rintro e w' ⟨rfl, rfl⟩
            go_wp2_with fail
            refine (told_any w).mono ?_
            rintro e w4 ⟨rfl, hx⟩
            go_wp2_with fail
            go_ret
            exact ⟨rfl, hx⟩
        · have ozb := not_zero hb zb
          clear h za zb
          rcases o3 with o3 | o3 <;> rcases ozb with ozb | ozb
          · go_enter Tryd.func6, Tryd.ntmps6
            go_wp2_with fail
            refine (least_any w a b b h1.out).mono ?_
            rintro e w' ⟨rfl, rfl⟩
            go_wp2_with fail
            refine (least_any w b a b h2.out).mono ?_
            rintro e w' ⟨rfl, rfl⟩
            go_wp2_with fail
            refine (k1.out w).mono ?_
            rintro e w' ⟨rfl, rfl⟩
            go_wp2_with fail
            refine (k2.out w).mono ?_
            rintro e w' ⟨rfl, rfl⟩
            go_wp2_with fail
            refine (k3.out w).mono ?_
            rintro e w' ⟨rfl, rfl⟩
            go_wp2_with fail
            refine (told_any w).mono ?_
            rintro e w4 ⟨rfl, hx⟩
            go_wp2_with fail
            go_ret
            exact ⟨rfl, hx⟩
          · go_enter Tryd.func6, Tryd.ntmps6
            go_wp2_with fail
            refine (least_any w a b b h1.out).mono ?_
            rintro e w' ⟨rfl, rfl⟩
            go_wp2_with fail
            refine (least_any w b a b h2.out).mono ?_
            rintro e w' ⟨rfl, rfl⟩
            go_wp2_with fail
            refine (k1.out w).mono ?_
            rintro e w' ⟨rfl, rfl⟩
            go_wp2_with fail
            refine (k2.out w).mono ?_
            rintro e w' ⟨rfl, rfl⟩
            go_wp2_with fail
            refine (k3.out w).mono ?_
            rintro e w' ⟨rfl, rfl⟩
            go_wp2_with fail
            refine (told_any w).mono ?_
            rintro e w4 ⟨rfl, hx⟩
            go_wp2_with fail
            go_ret
            exact ⟨rfl, hx⟩
          · go_enter Tryd.func6, Tryd.ntmps6
            go_wp2_with fail
            refine (least_any w a b b h1.out).mono ?_
            rintro e w' ⟨rfl, rfl⟩
            go_wp2_with fail
            refine (least_any w b a b h2.out).mono ?_
            rintro e w' ⟨rfl, rfl⟩
            go_wp2_with fail
            refine (k1.out w).mono ?_
            rintro e w' ⟨rfl, rfl⟩
            go_wp2_with fail
            refine (k2.out w).mono ?_
            rintro e w' ⟨rfl, rfl⟩
            go_wp2_with fail
            refine (k3.out w).mono ?_
            rintro e w' ⟨rfl, rfl⟩
            go_wp2_with fail
            refine (told_any w).mono ?_
            rintro e w4 ⟨rfl, hx⟩
            go_wp2_with fail
            go_ret
            exact ⟨rfl, hx⟩
          · go_enter Tryd.func6, Tryd.ntmps6
            go_wp2_with fail
            refine (least_any w a b b h1.out).mono ?_
            rintro e w' ⟨rfl, rfl⟩
            go_wp2_with fail
            refine (least_any w b a b h2.out).mono ?_
            rintro e w' ⟨rfl, rfl⟩
            go_wp2_with fail
            refine (k1.out w).mono ?_
            rintro e w' ⟨rfl, rfl⟩
            go_wp2_with fail
            refine (k2.out w).mono ?_
            rintro e w' ⟨rfl, rfl⟩
            go_wp2_with fail
            refine (k3.out w).mono ?_
            rintro e w' ⟨rfl, rfl⟩
            go_wp2_with fail
            refine (told_any w).mono ?_
            rintro e w4 ⟨rfl, hx⟩
            go_wp2_with fail
            go_ret
            exact ⟨rfl, hx⟩
      · have oza := not_zero ha za
        clear h za
        rcases o3 with o3 | o3 <;> rcases oza with oza | oza
        · go_enter Tryd.func6, Tryd.ntmps6
          go_wp2_with fail
          refine (least_any w a b b h1.out).mono ?_
          rintro e w' ⟨rfl, rfl⟩
          go_wp2_with fail
          refine (least_any w b a b h2.out).mono ?_
          rintro e w' ⟨rfl, rfl⟩
          go_wp2_with fail
          refine (k1.out w).mono ?_
          rintro e w' ⟨rfl, rfl⟩
          go_wp2_with fail
          refine (k2.out w).mono ?_
          rintro e w' ⟨rfl, rfl⟩
          go_wp2_with fail
          refine (k3.out w).mono ?_
          rintro e w' ⟨rfl, rfl⟩
          go_wp2_with fail
          refine (told_any w).mono ?_
          rintro e w4 ⟨rfl, hx⟩
          go_wp2_with fail
          go_ret
          exact ⟨rfl, hx⟩
        · go_enter Tryd.func6, Tryd.ntmps6
          go_wp2_with fail
          refine (least_any w a b b h1.out).mono ?_
          rintro e w' ⟨rfl, rfl⟩
          go_wp2_with fail
          refine (least_any w b a b h2.out).mono ?_
          rintro e w' ⟨rfl, rfl⟩
          go_wp2_with fail
          refine (k1.out w).mono ?_
          rintro e w' ⟨rfl, rfl⟩
          go_wp2_with fail
          refine (k2.out w).mono ?_
          rintro e w' ⟨rfl, rfl⟩
          go_wp2_with fail
          refine (k3.out w).mono ?_
          rintro e w' ⟨rfl, rfl⟩
          go_wp2_with fail
          refine (told_any w).mono ?_
          rintro e w4 ⟨rfl, hx⟩
          go_wp2_with fail
          go_ret
          exact ⟨rfl, hx⟩
        · go_enter Tryd.func6, Tryd.ntmps6
          go_wp2_with fail
          refine (least_any w a b b h1.out).mono ?_
          rintro e w' ⟨rfl, rfl⟩
          go_wp2_with fail
          refine (least_any w b a b h2.out).mono ?_
          rintro e w' ⟨rfl, rfl⟩
          go_wp2_with fail
          refine (k1.out w).mono ?_
          rintro e w' ⟨rfl, rfl⟩
          go_wp2_with fail
          refine (k2.out w).mono ?_
          rintro e w' ⟨rfl, rfl⟩
          go_wp2_with fail
          refine (k3.out w).mono ?_
          rintro e w' ⟨rfl, rfl⟩
          go_wp2_with fail
          refine (told_any w).mono ?_
          rintro e w4 ⟨rfl, hx⟩
          go_wp2_with fail
          go_ret
          exact ⟨rfl, hx⟩
        · go_enter Tryd.func6, Tryd.ntmps6
          go_wp2_with fail
          refine (least_any w a b b h1.out).mono ?_
          rintro e w' ⟨rfl, rfl⟩
          go_wp2_with fail
          refine (least_any w b a b h2.out).mono ?_
          rintro e w' ⟨rfl, rfl⟩
          go_wp2_with fail
          refine (k1.out w).mono ?_
          rintro e w' ⟨rfl, rfl⟩
          go_wp2_with fail
          refine (k2.out w).mono ?_
          rintro e w' ⟨rfl, rfl⟩
          go_wp2_with fail
          refine (k3.out w).mono ?_
          rintro e w' ⟨rfl, rfl⟩
          go_wp2_with fail
          refine (told_any w).mono ?_
          rintro e w4 ⟨rfl, hx⟩
          go_wp2_with fail
          go_ret
          exact ⟨rfl, hx⟩
  · have oa := ord_self ha
    have ob := ord_nanl (y := b) hb
    have ob2 := ord_nanl (y := a) hb
    have ob3 := ord_nanl (y := 0) hb
    have h1 : Hid (leastW a b = a) := Lib.hid (by unfold leastW; rw [if_pos (.inl hb)])
    have h2 : Hid (leastW b a = a) := Lib.hid (by unfold leastW; rw [if_neg (by rw [ha, hb]; simp)])
    have k1 := Lib.hid (fun w => same_any w a a true (by simp))
    have k2 := Lib.hid (fun w => same_any w a a true (by simp))
    by_cases za : kv a = 0
    · have oza := zero_is ha za
      go_enter Tryd.func6, Tryd.ntmps6
      go_wp2_with fail
      refine (least_any w a b a h1.out).mono ?_
      rintro e w' ⟨rfl, rfl⟩
      go_wp2_with fail
      refine (least_any w b a a h2.out).mono ?_
      rintro e w' ⟨rfl, rfl⟩
      go_wp2_with fail
      refine (k1.out w).mono ?_
      rintro e w' ⟨rfl, rfl⟩
      go_wp2_with fail
      refine (k2.out w).mono ?_
      rintro e w' ⟨rfl, rfl⟩
      go_wp2_with fail
      refine (told_any w).mono ?_
      rintro e w4 ⟨rfl, hx⟩
      go_wp2_with fail
      go_ret
      exact ⟨rfl, hx⟩
    · rcases not_zero ha za with oza | oza
      · go_enter Tryd.func6, Tryd.ntmps6
        go_wp2_with fail
        refine (least_any w a b a h1.out).mono ?_
        rintro e w' ⟨rfl, rfl⟩
        go_wp2_with fail
        refine (least_any w b a a h2.out).mono ?_
        rintro e w' ⟨rfl, rfl⟩
        go_wp2_with fail
        refine (k1.out w).mono ?_
        rintro e w' ⟨rfl, rfl⟩
        go_wp2_with fail
        refine (k2.out w).mono ?_
        rintro e w' ⟨rfl, rfl⟩
        go_wp2_with fail
        refine (told_any w).mono ?_
        rintro e w4 ⟨rfl, hx⟩
        go_wp2_with fail
        go_ret
        exact ⟨rfl, hx⟩
      · go_enter Tryd.func6, Tryd.ntmps6
        go_wp2_with fail
        refine (least_any w a b a h1.out).mono ?_
        rintro e w' ⟨rfl, rfl⟩
        go_wp2_with fail
        refine (least_any w b a a h2.out).mono ?_
        rintro e w' ⟨rfl, rfl⟩
        go_wp2_with fail
        refine (k1.out w).mono ?_
        rintro e w' ⟨rfl, rfl⟩
        go_wp2_with fail
        refine (k2.out w).mono ?_
        rintro e w' ⟨rfl, rfl⟩
        go_wp2_with fail
        refine (told_any w).mono ?_
        rintro e w4 ⟨rfl, hx⟩
        go_wp2_with fail
        go_ret
        exact ⟨rfl, hx⟩
  · have oa := ord_nanl (y := a) ha
    have ob := ord_self hb
    have oa2 := ord_nanl (y := b) ha
    have oa3 := ord_nanl (y := 0) ha
    have h1 : Hid (leastW a b = b) := Lib.hid (by unfold leastW; rw [if_neg (by rw [ha, hb]; simp)])
    have h2 : Hid (leastW b a = b) := Lib.hid (by unfold leastW; rw [if_pos (.inl ha)])
    have k1 := Lib.hid (fun w => same_any w b b true (by simp))
    have k2 := Lib.hid (fun w => same_any w b a false (by rw [key_nan ha]; have := key_num hb; simp; omega))
    have k3 := Lib.hid (fun w => same_any w b b true (by simp))
    go_enter Tryd.func6, Tryd.ntmps6
    go_wp2_with fail
    refine (least_any w a b b h1.out).mono ?_
    rintro e w' ⟨rfl, rfl⟩
    go_wp2_with fail
    refine (least_any w b a b h2.out).mono ?_
    rintro e w' ⟨rfl, rfl⟩
    go_wp2_with fail
    refine (k1.out w).mono ?_
    rintro e w' ⟨rfl, rfl⟩
    go_wp2_with fail
    refine (k2.out w).mono ?_
    rintro e w' ⟨rfl, rfl⟩
    go_wp2_with fail
    refine (k3.out w).mono ?_
    rintro e w' ⟨rfl, rfl⟩
    go_wp2_with fail
    refine (told_any w).mono ?_
    rintro e w4 ⟨rfl, hx⟩
    go_wp2_with fail
    go_ret
    exact ⟨rfl, hx⟩
  · have oa := ord_nanl (y := a) ha
    have ob := ord_nanl (y := b) hb
    have ob2 := ord_nanl (y := a) hb
    have oa3 := ord_nanl (y := 0) ha
    have h1 : Hid (leastW a b = a) := Lib.hid (by unfold leastW; rw [if_pos (.inl hb)])
    have h2 : Hid (leastW b a = b) := Lib.hid (by unfold leastW; rw [if_pos (.inl ha)])
    have k1 := Lib.hid (fun w => same_any w a b true (by rw [key_nan ha, key_nan hb]; simp))
    have k2 := Lib.hid (fun w => same_any w a a true (by simp))
    go_enter Tryd.func6, Tryd.ntmps6
    go_wp2_with fail
    refine (least_any w a b a h1.out).mono ?_
    rintro e w' ⟨rfl, rfl⟩
    go_wp2_with fail
    refine (least_any w b a b h2.out).mono ?_
    rintro e w' ⟨rfl, rfl⟩
    go_wp2_with fail
    refine (k1.out w).mono ?_
    rintro e w' ⟨rfl, rfl⟩
    go_wp2_with fail
    refine (k2.out w).mono ?_
    rintro e w' ⟨rfl, rfl⟩
    go_wp2_with fail
    refine (told_any w).mono ?_
    rintro e w4 ⟨rfl, hx⟩
    go_wp2_with fail
    go_ret
    exact ⟨rfl, hx⟩

end Go.Proofs.YthhgpoihkmokcaaDoor
