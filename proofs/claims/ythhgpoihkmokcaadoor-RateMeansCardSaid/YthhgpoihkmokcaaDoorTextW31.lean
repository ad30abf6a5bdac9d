/- Package rate: Text. -/
import Derived.Test.YthhgpoihkmokcaaDoorText31
namespace Go.Proofs.YthhgpoihkmokcaaDoor
open Go.RowKit Ieee
set_option linter.unusedVariables false

/-- A float's text, l being its number's. -/
def textL (x : Nat) (l : ByteArray) : ByteArray :=
  if nanB x = true then ⟨#[78, 97, 78]⟩ else if rg x = 9218868437227405312 then (if sg x = true then ⟨#[45, 73, 110, 102]⟩ else ⟨#[43, 73, 110, 102]⟩)
  else if kv (pW x) < kv c50 then (if sg x = true then ⟨#[45]⟩ else ⟨#[]⟩) ++ l ++ ⟨#[37]⟩ else (if sg x = true then ⟨#[45, 66, 105, 103]⟩ else ⟨#[43, 66, 105, 103]⟩)

theorem kv_pos {x : Nat} (h : sg x = false) : kv x = rg x := by unfold kv; rw [h]; rfl
theorem kv_neg {x : Nat} (h : sg x = true) : kv x = -(rg x : Int) := by unfold kv; rw [h]; rfl
theorem c50_kv : kv 4832362400168542208 = 4832362400168542208 := by decide
theorem half_kv : kv 4602678819172646912 = 4602678819172646912 := by decide
theorem half_is : kv half = 4602678819172646912 := by decide
theorem c50_is : kv c50 = 4832362400168542208 := by decide

set_option maxRecDepth 20000 in
set_option maxHeartbeats 6400000 in
theorem text_any (w : World) (x : Nat) (l : ByteArray) (hl : l.size ≤ 100) (r : ByteArray) (hr : textL x l = r)
    (K : nanB x = false → rg x < 9218868437227405312 → kv (pW x) < kv c50 → Calls Tryd.prog 34 #[.int .i64 (numT (pW x)), .int .i64 10] w fun e w' => e = .returned (.string l) ∧ Ex w w') :
    Calls Tryd.prog 19 #[.float .f64 x] w fun e w' => e = .returned (.string r) ∧ Ex w w' := by
  unfold textL at hr
  cases hx : nanB x
  · rw [if_neg (by rw [hx]; simp)] at hr
    have o1 := ord_self hx
    by_cases hi : rg x = 9218868437227405312
    · rw [if_pos hi] at hr
      cases hs : sg x
      · rw [if_neg (by rw [hs]; simp)] at hr
        subst hr
        have i1 := Lib.hid (isinf_pos w x hx true (by rw [kv_pos hs, hi]; decide))
        clear K hl hi hs
        go_enter Tryd.func19, Tryd.ntmps19
        go_wp2_with fail
        refine i1.out.mono ?_
        rintro e w' ⟨rfl, rfl⟩
        go_wp2_with fail
        go_ret
        exact ⟨rfl, Ex.refl w⟩
      · rw [if_pos hs] at hr
        subst hr
        have i1 := Lib.hid (isinf_pos w x hx false (by rw [kv_neg hs, hi]; decide))
        have i2 := Lib.hid (isinf_neg w x hx true (by rw [kv_neg hs, hi]; decide))
        clear K hl hi hs
        go_enter Tryd.func19, Tryd.ntmps19
        go_wp2_with fail
        refine i1.out.mono ?_
        rintro e w' ⟨rfl, rfl⟩
        go_wp2_with fail
        refine i2.out.mono ?_
        rintro e w' ⟨rfl, rfl⟩
        go_wp2_with fail
        go_ret
        exact ⟨rfl, Ex.refl w⟩
    · rw [if_neg hi] at hr
      have hf : rg x < 9218868437227405312 := by have := rg_cases hx; omega
      have hkv : kv x ≠ 9218868437227405312 ∧ kv x ≠ -9218868437227405312 := by
        cases hs : sg x
        · rw [kv_pos hs]; omega
        · rw [kv_neg hs]; omega
      have i1 := Lib.hid (isinf_pos w x hx false (decide_eq_false hkv.1))
      have i2 := Lib.hid (isinf_neg w x hx false (decide_eq_false hkv.2))
      have i3 := Lib.hid (fun a (ha : rg a = rg x) (hs : sg a = false) => pW_is hf ha hs)
      obtain ⟨p, hp'⟩ : ∃ p, pW x = p := ⟨_, rfl⟩
      have hple : Hid (p ≤ 9218868437227405312) := Lib.hid (by rw [← hp']; exact (pW_is (a := rg x) hf (by unfold rg; omega) (by have := rg_lt x; unfold sg; simp; omega)).2.2)
      rw [hp'] at hr
      have hp := Lib.hid hp'
      clear hp'
      have hl' : (l.size : Int) ≤ 100 := by omega
      cases hs : sg x
      · have hsg := Lib.hid (signbit_any w x false hs)
        by_cases hb : kv p < kv c50
        · rw [if_pos hb] at hr
          rw [if_neg (by rw [hs]; simp)] at hr
          subst hr
          have K1 := Lib.hid (K hx hf (hp.out.symm ▸ hb))
          have o2 : FloatKind.f64.format.order p 4832362400168542208 = some .lt := ord_lt (nn_le hple.out).2.2 (by decide) hb
          obtain ⟨f1, f2, f3, f4, f5, f6, f7, f8⟩ := part_is hple.out hb
          rw [hp.out] at K1
          unfold numT at K1
          generalize flW p = f at *
          generalize nW p = n at *
          generalize dW p = d at *
          have hflo := Lib.hid (floor_any p f f1 w)
          have hcv := fun w => run_convert_float_int (P := Tryd.prog) w 23 2 .f64 .i64 f n (by kernel_rfl) Tryd.underlying2 f2
          have hsb := fun w => run_float_arith (P := Tryd.prog) w .sub 23 .f64 p f d f5
          rw [half_is] at K1
          clear f1 f2 f3 f4 f5 K hb hs hf hkv hi
          rcases Int.lt_trichotomy (kv d) 4602678819172646912 with k | k | k
          · have o3 : FloatKind.f64.format.order d 4602678819172646912 = some .lt := ord_lt f6 (by decide) (by rw [half_kv]; exact k)
            rw [if_neg (by omega), Int.add_zero] at K1
            clear k f6
            go_enter Tryd.func19, Tryd.ntmps19
            go_wp2_with fail
            refine i1.out.mono ?_
            rintro e w' ⟨rfl, rfl⟩
            go_wp2_with fail
            refine i2.out.mono ?_
            rintro e w' ⟨rfl, rfl⟩
            go_wp2_with fail
            refine hsg.out.mono ?_
            rintro e w' ⟨rfl, rfl⟩
            go_wp2_with fail
            refine (abs_any w x).mono ?_
            rintro e w' ⟨⟨a, rfl, ha1, ha2⟩, rfl⟩
            have hm := fun w => run_float_arith (P := Tryd.prog) w .mul 23 .f64 4636737291354636288 a p (hp.out ▸ (i3.out a ha1 ha2).1)
            clear ha1 ha2
            go_wp2_with fail
            refine hflo.out.mono ?_
            rintro e w' ⟨rfl, rfl⟩
            go_wp2_with fail
            refine hflo.out.mono ?_
            rintro e w' ⟨rfl, rfl⟩
            go_wp2_with fail
            refine K1.out.mono ?_
            rintro e w' ⟨rfl, hx2⟩
            go_wp2_with fail
            go_ret
            exact ⟨rfl, hx2⟩
          · have o3 : FloatKind.f64.format.order d 4602678819172646912 = some .eq := ord_eq f6 (by decide) (by rw [half_kv]; exact k)
            rw [if_pos (by omega)] at K1
            clear k f6
            go_enter Tryd.func19, Tryd.ntmps19
            go_wp2_with fail
            refine i1.out.mono ?_
            rintro e w' ⟨rfl, rfl⟩
            go_wp2_with fail
            refine i2.out.mono ?_
            rintro e w' ⟨rfl, rfl⟩
            go_wp2_with fail
            refine hsg.out.mono ?_
            rintro e w' ⟨rfl, rfl⟩
            go_wp2_with fail
            refine (abs_any w x).mono ?_
            rintro e w' ⟨⟨a, rfl, ha1, ha2⟩, rfl⟩
            have hm := fun w => run_float_arith (P := Tryd.prog) w .mul 23 .f64 4636737291354636288 a p (hp.out ▸ (i3.out a ha1 ha2).1)
            clear ha1 ha2
            go_wp2_with fail
            refine hflo.out.mono ?_
            rintro e w' ⟨rfl, rfl⟩
            go_wp2_with fail
            refine hflo.out.mono ?_
            rintro e w' ⟨rfl, rfl⟩
            go_wp2_with fail
            refine K1.out.mono ?_
            rintro e w' ⟨rfl, hx2⟩
            go_wp2_with fail
            go_ret
            exact ⟨rfl, hx2⟩
          · have o3 : FloatKind.f64.format.order d 4602678819172646912 = some .gt := ord_gt f6 (by decide) (by rw [half_kv]; exact k)
            rw [if_pos (by omega)] at K1
            clear k f6
            go_enter Tryd.func19, Tryd.ntmps19
            go_wp2_with fail
            refine i1.out.mono ?_
            rintro e w' ⟨rfl, rfl⟩
            go_wp2_with fail
            refine i2.out.mono ?_
            rintro e w' ⟨rfl, rfl⟩
            go_wp2_with fail
            refine hsg.out.mono ?_
            rintro e w' ⟨rfl, rfl⟩
            go_wp2_with fail
            refine (abs_any w x).mono ?_
            rintro e w' ⟨⟨a, rfl, ha1, ha2⟩, rfl⟩
            have hm := fun w => run_float_arith (P := Tryd.prog) w .mul 23 .f64 4636737291354636288 a p (hp.out ▸ (i3.out a ha1 ha2).1)
            clear ha1 ha2
            go_wp2_with fail
            refine hflo.out.mono ?_
            rintro e w' ⟨rfl, rfl⟩
            go_wp2_with fail
            refine hflo.out.mono ?_
            rintro e w' ⟨rfl, rfl⟩
            go_wp2_with fail
            refine K1.out.mono ?_
            rintro e w' ⟨rfl, hx2⟩
            go_wp2_with fail
            go_ret
            exact ⟨rfl, hx2⟩
        · rw [if_neg hb] at hr
          rw [if_neg (by rw [hs]; simp)] at hr
          subst hr
          have o2 : FloatKind.f64.format.order p 4832362400168542208 = some .gt ∨ FloatKind.f64.format.order p 4832362400168542208 = some .eq := by
            rcases Int.lt_trichotomy (kv p) (kv c50) with k | k | k
            · exact absurd k hb
            · exact .inr (ord_eq (nn_le hple.out).2.2 (by decide) k)
            · exact .inl (ord_gt (nn_le hple.out).2.2 (by decide) k)
          clear K hb hs hf hkv hi
          rcases o2 with o2 | o2
          · go_enter Tryd.func19, Tryd.ntmps19
            go_wp2_with fail
            refine i1.out.mono ?_
            rintro e w' ⟨rfl, rfl⟩
            go_wp2_with fail
            refine i2.out.mono ?_
            rintro e w' ⟨rfl, rfl⟩
            go_wp2_with fail
            refine hsg.out.mono ?_
            rintro e w' ⟨rfl, rfl⟩
            go_wp2_with fail
            refine (abs_any w x).mono ?_
            rintro e w' ⟨⟨a, rfl, ha1, ha2⟩, rfl⟩
            have hm := fun w => run_float_arith (P := Tryd.prog) w .mul 23 .f64 4636737291354636288 a p (hp.out ▸ (i3.out a ha1 ha2).1)
            clear ha1 ha2
            go_wp2_with fail
            go_ret
            exact ⟨rfl, Ex.refl w⟩
          · go_enter Tryd.func19, Tryd.ntmps19
            go_wp2_with fail
            refine i1.out.mono ?_
            rintro e w' ⟨rfl, rfl⟩
            go_wp2_with fail
            refine i2.out.mono ?_
            rintro e w' ⟨rfl, rfl⟩
            go_wp2_with fail
            refine hsg.out.mono ?_
            rintro e w' ⟨rfl, rfl⟩
            go_wp2_with fail
            refine (abs_any w x).mono ?_
            rintro e w' ⟨⟨a, rfl, ha1, ha2⟩, rfl⟩
            have hm := fun w => run_float_arith (P := Tryd.prog) w .mul 23 .f64 4636737291354636288 a p (hp.out ▸ (i3.out a ha1 ha2).1)
            clear ha1 ha2
            go_wp2_with fail
            go_ret
            exact ⟨rfl, Ex.refl w⟩
      · have hsg := Lib.hid (signbit_any w x true hs)
        by_cases hb : kv p < kv c50
        · rw [if_pos hb] at hr
          rw [if_pos hs] at hr
          subst hr
          have K1 := Lib.hid (K hx hf (hp.out.symm ▸ hb))
          have o2 : FloatKind.f64.format.order p 4832362400168542208 = some .lt := ord_lt (nn_le hple.out).2.2 (by decide) hb
          obtain ⟨f1, f2, f3, f4, f5, f6, f7, f8⟩ := part_is hple.out hb
          rw [hp.out] at K1
          unfold numT at K1
          generalize flW p = f at *
          generalize nW p = n at *
          generalize dW p = d at *
          have hflo := Lib.hid (floor_any p f f1 w)
          have hcv := fun w => run_convert_float_int (P := Tryd.prog) w 23 2 .f64 .i64 f n (by kernel_rfl) Tryd.underlying2 f2
          have hsb := fun w => run_float_arith (P := Tryd.prog) w .sub 23 .f64 p f d f5
          rw [half_is] at K1
          clear f1 f2 f3 f4 f5 K hb hs hf hkv hi
          rcases Int.lt_trichotomy (kv d) 4602678819172646912 with k | k | k
          · have o3 : FloatKind.f64.format.order d 4602678819172646912 = some .lt := ord_lt f6 (by decide) (by rw [half_kv]; exact k)
            rw [if_neg (by omega), Int.add_zero] at K1
            clear k f6
            go_enter Tryd.func19, Tryd.ntmps19
            go_wp2_with fail
            refine i1.out.mono ?_
            rintro e w' ⟨rfl, rfl⟩
            go_wp2_with fail
            refine i2.out.mono ?_
            rintro e w' ⟨rfl, rfl⟩
            go_wp2_with fail
            refine hsg.out.mono ?_
            rintro e w' ⟨rfl, rfl⟩
            go_wp2_with fail
            refine (abs_any w x).mono ?_
            rintro e w' ⟨⟨a, rfl, ha1, ha2⟩, rfl⟩
            have hm := fun w => run_float_arith (P := Tryd.prog) w .mul 23 .f64 4636737291354636288 a p (hp.out ▸ (i3.out a ha1 ha2).1)
            clear ha1 ha2
            go_wp2_with fail
            refine hflo.out.mono ?_
            rintro e w' ⟨rfl, rfl⟩
            go_wp2_with fail
            refine hflo.out.mono ?_
            rintro e w' ⟨rfl, rfl⟩
            go_wp2_with fail
            refine K1.out.mono ?_
            rintro e w' ⟨rfl, hx2⟩
            go_wp2_with fail
            go_ret
            exact ⟨rfl, hx2⟩
          · have o3 : FloatKind.f64.format.order d 4602678819172646912 = some .eq := ord_eq f6 (by decide) (by rw [half_kv]; exact k)
            rw [if_pos (by omega)] at K1
            clear k f6
            go_enter Tryd.func19, Tryd.ntmps19
            go_wp2_with fail
            refine i1.out.mono ?_
            rintro e w' ⟨rfl, rfl⟩
            go_wp2_with fail
            refine i2.out.mono ?_
            rintro e w' ⟨rfl, rfl⟩
            go_wp2_with fail
            refine hsg.out.mono ?_
            rintro e w' ⟨rfl, rfl⟩
            go_wp2_with fail
            refine (abs_any w x).mono ?_
            rintro e w' ⟨⟨a, rfl, ha1, ha2⟩, rfl⟩
            have hm := fun w => run_float_arith (P := Tryd.prog) w .mul 23 .f64 4636737291354636288 a p (hp.out ▸ (i3.out a ha1 ha2).1)
            clear ha1 ha2
            go_wp2_with fail
            refine hflo.out.mono ?_
            rintro e w' ⟨rfl, rfl⟩
            go_wp2_with fail
            refine hflo.out.mono ?_
            rintro e w' ⟨rfl, rfl⟩
            go_wp2_with fail
            refine K1.out.mono ?_
            rintro e w' ⟨rfl, hx2⟩
            go_wp2_with fail
            go_ret
            exact ⟨rfl, hx2⟩
          · have o3 : FloatKind.f64.format.order d 4602678819172646912 = some .gt := ord_gt f6 (by decide) (by rw [half_kv]; exact k)
            rw [if_pos (by omega)] at K1
            clear k f6
            go_enter Tryd.func19, Tryd.ntmps19
            go_wp2_with fail
            refine i1.out.mono ?_
            rintro e w' ⟨rfl, rfl⟩
            go_wp2_with fail
            refine i2.out.mono ?_
            rintro e w' ⟨rfl, rfl⟩
            go_wp2_with fail
            refine hsg.out.mono ?_
            rintro e w' ⟨rfl, rfl⟩
            go_wp2_with fail
            refine (abs_any w x).mono ?_
            rintro e w' ⟨⟨a, rfl, ha1, ha2⟩, rfl⟩
            have hm := fun w => run_float_arith (P := Tryd.prog) w .mul 23 .f64 4636737291354636288 a p (hp.out ▸ (i3.out a ha1 ha2).1)
            clear ha1 ha2
            go_wp2_with fail
            refine hflo.out.mono ?_
            rintro e w' ⟨rfl, rfl⟩
            go_wp2_with fail
            refine hflo.out.mono ?_
            rintro e w' ⟨rfl, rfl⟩
            go_wp2_with fail
            refine K1.out.mono ?_
            rintro e w' ⟨rfl, hx2⟩
            go_wp2_with fail
            go_ret
            exact ⟨rfl, hx2⟩
        · rw [if_neg hb] at hr
          rw [if_pos hs] at hr
          subst hr
          have o2 : FloatKind.f64.format.order p 4832362400168542208 = some .gt ∨ FloatKind.f64.format.order p 4832362400168542208 = some .eq := by
            rcases Int.lt_trichotomy (kv p) (kv c50) with k | k | k
            · exact absurd k hb
            · exact .inr (ord_eq (nn_le hple.out).2.2 (by decide) k)
            · exact .inl (ord_gt (nn_le hple.out).2.2 (by decide) k)
          clear K hb hs hf hkv hi
          rcases o2 with o2 | o2
          · go_enter Tryd.func19, Tryd.ntmps19
            go_wp2_with fail
            refine i1.out.mono ?_
            rintro e w' ⟨rfl, rfl⟩
            go_wp2_with fail
            refine i2.out.mono ?_
            rintro e w' ⟨rfl, rfl⟩
            go_wp2_with fail
            refine hsg.out.mono ?_
            rintro e w' ⟨rfl, rfl⟩
            go_wp2_with fail
            refine (abs_any w x).mono ?_
            rintro e w' ⟨⟨a, rfl, ha1, ha2⟩, rfl⟩
            have hm := fun w => run_float_arith (P := Tryd.prog) w .mul 23 .f64 4636737291354636288 a p (hp.out ▸ (i3.out a ha1 ha2).1)
            clear ha1 ha2
            go_wp2_with fail
            go_ret
            exact ⟨rfl, Ex.refl w⟩
          · go_enter Tryd.func19, Tryd.ntmps19
            go_wp2_with fail
            refine i1.out.mono ?_
            rintro e w' ⟨rfl, rfl⟩
            go_wp2_with fail
            refine i2.out.mono ?_
            rintro e w' ⟨rfl, rfl⟩
            go_wp2_with fail
            refine hsg.out.mono ?_
            rintro e w' ⟨rfl, rfl⟩
            go_wp2_with fail
            refine (abs_any w x).mono ?_
            rintro e w' ⟨⟨a, rfl, ha1, ha2⟩, rfl⟩
            have hm := fun w => run_float_arith (P := Tryd.prog) w .mul 23 .f64 4636737291354636288 a p (hp.out ▸ (i3.out a ha1 ha2).1)
            clear ha1 ha2
            go_wp2_with fail
            go_ret
            exact ⟨rfl, Ex.refl w⟩
  · rw [if_pos hx] at hr
    subst hr
    have o1 := ord_nanl (y := x) hx
    clear K hl
    go_enter Tryd.func19, Tryd.ntmps19
    go_wp2_with fail
    go_ret
    exact ⟨rfl, Ex.refl w⟩

end Go.Proofs.YthhgpoihkmokcaaDoor
