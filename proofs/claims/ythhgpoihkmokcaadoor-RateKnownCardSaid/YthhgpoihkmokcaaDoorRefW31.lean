/- The document's Least, Mean, Text. -/
import Derived.Test.YthhgpoihkmokcaaDoorTold31
namespace Go.Proofs.YthhgpoihkmokcaaDoor
open Go.RowKit Ieee
set_option linter.unusedVariables false

theorem rinf_lt : FloatKind.f64.format.order (infW true) 0 = some .lt := ord_lt (inf_nan _) nan_zero (by decide)
theorem rinf_gt : FloatKind.f64.format.order (infW false) 0 = some .gt := ord_gt (inf_nan _) nan_zero (by decide)
def rleastW (x y : Nat) : Nat := if nanB x = true then y else if nanB y = true then x else if key y < key x then y else x
theorem rleast_key (x y : Nat) : key (rleastW x y) = key (leastW x y) := by
  unfold rleastW leastW
  cases hx : nanB x <;> cases hy : nanB y <;> simp
  · rcases Int.lt_trichotomy (key x) (key y) with h | h | h
    · rw [if_neg (by omega), if_pos h]
    · rw [if_neg (by omega), if_neg (by omega), h]
    · rw [if_pos h, if_neg (by omega)]
  · rw [key_nan hx, key_nan hy]
theorem rleast_any (w : World) (x y r : Nat) (hr : rleastW x y = r) : Calls Tryd.prog 18 #[.float .f64 x, .float .f64 y] w fun e w' => e = .returned (.float .f64 r) ∧ w = w' := by
  unfold rleastW at hr
  cases hx : nanB x
  · have o1 := ord_self hx
    rw [if_neg (by rw [hx]; simp)] at hr
    cases hy : nanB y
    · have o2 := ord_self hy
      rw [if_neg (by rw [hy]; simp)] at hr
      by_cases h : key y < key x
      · rw [if_pos h] at hr
        subst hr
        have hd := Lib.hid (fun w => rless_any w y x true (decide_eq_true h))
        clear h
        go_enter Tryd.func18, Tryd.ntmps18
        go_wp2_with fail
        refine (hd.out w).mono ?_
        rintro e w' ⟨rfl, rfl⟩
        go_wp2
        go_ret
        exact ⟨rfl, rfl⟩
      · rw [if_neg h] at hr
        subst hr
        have hd := Lib.hid (fun w => rless_any w y x false (decide_eq_false h))
        clear h
        go_enter Tryd.func18, Tryd.ntmps18
        go_wp2_with fail
        refine (hd.out w).mono ?_
        rintro e w' ⟨rfl, rfl⟩
        go_wp2
        go_ret
        exact ⟨rfl, rfl⟩
    · have o2 := ord_nanl (y := y) hy
      rw [if_pos hy] at hr
      subst hr
      go_enter Tryd.func18, Tryd.ntmps18
      go_wp2
      go_ret
      exact ⟨rfl, rfl⟩
  · have o1 := ord_nanl (y := x) hx
    rw [if_pos hx] at hr
    subst hr
    go_enter Tryd.func18, Tryd.ntmps18
    go_wp2
    go_ret
    exact ⟨rfl, rfl⟩

set_option maxRecDepth 20000 in
set_option maxHeartbeats 3200000 in
theorem rmean_any {w : World} {a : Option Addr} {n : Nat} {l : List Nat} (cap : Nat) (h : Fs w a n l) (hn : n ≤ 200) :
    Calls Tryd.prog 16 #[.slice a n cap] w fun e w' => (∃ r, e = .returned (.float .f64 r) ∧ key r = key (meanW l)) ∧ Ex w w' := by
  have H := Lib.hid h
  have HL : Hid (l.length = n) := Lib.hid h.1
  clear h
  go_enter Tryd.func16, Tryd.ntmps16
  go_wp2_with fail
  go_loopw [3, 4, 5] (fun sv cv iv wr => ∃ (i s : Nat), i ≤ n ∧ iv = .int .i64 i ∧ sv = .float .f64 s ∧ key s = key (sumW l i).1 ∧ cv = .int .i64 ((sumW l i).2 : Int) ∧ Ex w wr) (fun _ _ iv _ => n - (intOf iv).toNat)
  case atStart => exact ⟨0, 0, by omega, rfl, rfl, by simp [sumW], by simp [sumW], Ex.refl w⟩
  case round =>
    obtain ⟨i, s, hi, rfl, rfl, hs, rfl, hx⟩ := hrel
    have HX := Lib.hid hx
    have HS := Lib.hid hs
    have hsl := sumW_le l i (by rw [HL.out]; omega)
    have hn' : (n : Int) ≤ 200 := by omega
    clear hs hx
    by_cases hlt : i < n
    · have q1 : (i : Int) < (n : Int) := by omega
      obtain ⟨x, hx⟩ : ∃ x, l.getD i 0 = x := ⟨_, rfl⟩
      obtain ⟨b, off, rfl, -, hc⟩ := (H.out.ex HX.out).2.resolve_left (by omega)
      have c0 : wr.cell? ⟨b, off + i, none⟩ = some (.float .f64 x) := hx ▸ hc i hlt
      have z0 : ∀ o : Out wr, o.w.cell? ⟨b, off + i, none⟩ = some (.float .f64 x) := fun o => cell_later o.2 c0
      have HT := Lib.hid (sumW_succ (l := l) (i := i) (by rw [HL.out]; omega))
      rw [hx] at HT
      clear hx hc
      obtain ⟨c, hc⟩ : ∃ c, (sumW l i).2 = c := ⟨_, rfl⟩
      rw [hc] at hsl ⊢
      have HC := Lib.hid hc
      have Z0 := Lib.hid z0
      clear hc
      cases hx : nanB x
      · have o1 := ord_self hx
        go_upto_region 5 with fail
        refine wp_region_ex (by kernel_rfl) (by kernel_rfl) ?_
        repeat (go_big_quiet_step (fail))
        refine wpQuiet_nil ?_
        rintro w4 ⟨wz, rfl⟩
        have hex : Ex wr wz.w := wz.2
        have c1 := Z0.out wz
        obtain ⟨V, hV⟩ : ∃ V, wz.w = V := ⟨_, rfl⟩
        rw [hV] at hex c1 ⊢
        have HW := Lib.hid hex
        clear z0 c0 hex hV
        obtain ⟨r, w2, h1, h2, h3⟩ := run_add_any V s x
        have H2 := Lib.hid h2
        have H3 := Lib.hid h3
        clear h2 h3
        go_wp2_with fail
        go_roundw
        case rel =>
          refine ⟨i + 1, r, by omega, by simp, rfl, ?_, ?_, HX.out.trans (HW.out.trans H3.out)⟩
          · rw [HT.out, hx, H2.out]
            exact congrArg key (add_key x HS.out)
          · rw [HT.out, hx, ← HC.out]; rfl
        case measure => simp [intOf]; omega
      · have o1 := ord_nanl (y := x) hx
        go_upto_region 5 with fail
        refine wp_region_ex (by kernel_rfl) (by kernel_rfl) ?_
        repeat (go_big_quiet_step (fail))
        refine wpQuiet_nil ?_
        rintro w4 ⟨wz, rfl⟩
        have hex : Ex wr wz.w := wz.2
        obtain ⟨V, hV⟩ : ∃ V, wz.w = V := ⟨_, rfl⟩
        rw [hV] at hex ⊢
        have HW := Lib.hid hex
        clear z0 c0 hex hV
        go_wp2_with fail
        go_roundw
        case rel =>
          refine ⟨i + 1, s, by omega, by simp, rfl, ?_, ?_, HX.out.trans HW.out⟩
          · rw [HT.out, hx]; exact HS.out
          · rw [HT.out, hx, ← HC.out]; rfl
        case measure => simp [intOf]; omega
    · have e : i = n := by omega
      subst e
      have q1 : ¬ ((i : Int) < (i : Int)) := by omega
      have HM : Hid (meanW l = quoW s (floatOfInt .f64 ((sumW l i).2 : Int))) := Lib.hid (by unfold meanW; rw [HL.out]; exact quo_key _ HS.out.symm)
      obtain ⟨c, hc⟩ : ∃ c, (sumW l i).2 = c := ⟨_, rfl⟩
      rw [hc] at HM ⊢
      obtain ⟨r, w2, h1, h2, h3⟩ := run_quo_any wr s (floatOfInt .f64 (c : Int))
      have H2 := Lib.hid h2
      have H3 := Lib.hid h3
      clear h2 h3 hc
      go_wp2_with fail
      go_ret
      exact ⟨⟨r, rfl, H2.out.trans (congrArg key HM.out.symm)⟩, HX.out.trans H3.out⟩

theorem sub_same {x : Nat} (h : rg x < 9218868437227405312) : floatBits .sub .f64 x x = some 0 := by
  obtain ⟨m, i, h1, h2, h3, h4⟩ := read_num h
  show Format.sub double x x = _
  unfold Format.sub
  rw [h1]
  have e : (Datum.number (sg x) m i).sum (Datum.number (sg x) m i).opposite = some (.number false 0 i) := by
    simp only [Datum.opposite, Datum.sum, Int.min_self, Int.sub_self]
    cases sg x <;> simp [signed] <;> omega
  rw [e]
  simp [Format.write, Format.nearest, Format.word]
theorem sub_inf (w : World) {x : Nat} (h : rg x = 9218868437227405312) : ∃ r w', (binOp .sub 23 (.float .f64 x) (.float .f64 x)).run Tryd.prog w = .ok (.float .f64 r) w' ∧ nanB r = true ∧ Ex w w' := by
  have h1 := read_inf h
  have e : FloatKind.f64.format.sub x x = none := by
    show Format.sub double x x = none
    unfold Format.sub
    rw [h1]
    cases sg x <;> rfl
  refine ⟨(Question.nanBits .f64 x x).cut (w.tape w.drawn (Question.nanBits .f64 x x)), { w with drawn := w.drawn + 1 }, ?_, cut_nan _ _ _, Ex.drawn w 1⟩
  simp [binOp, Op.floatArith, e, Question.forced]

set_option maxRecDepth 20000 in
set_option maxHeartbeats 12800000 in
theorem rtext_any (w : World) (x : Nat) (l : ByteArray) (hl : l.size ≤ 100) (r : ByteArray) (hr : textL x l = r)
    (K : nanB x = false → rg x < 9218868437227405312 → kv (pW x) < kv c50 → Calls Tryd.prog 34 #[.int .i64 (numT (pW x)), .int .i64 10] w fun e w' => e = .returned (.string l) ∧ Ex w w') :
    Calls Tryd.prog 20 #[.float .f64 x] w fun e w' => e = .returned (.string r) ∧ Ex w w' := by
  unfold textL at hr
  cases hx : nanB x
  · rw [if_neg (by rw [hx]; simp)] at hr
    have o1 := ord_self hx
    have hl' : (l.size : Int) ≤ 100 := by omega
    cases hs : sg x <;> by_cases hz : kv x = 0
    · have oz := zero_is hx hz
      have iv := inv_zero hz
      rw [hs] at iv
      have rv := fun (w : World) => run_float_arith (P := Tryd.prog) w .quo 23 .f64 4607182418800017408 x _ iv
      have oi := rinf_gt
      clear iv
      obtain ⟨y, hy⟩ : ∃ y, x = y := ⟨_, rfl⟩
      have hyr : rg y = rg x := by rw [← hy]
      have hys : sg y = false := by rw [← hy, hs]
      have HY := Lib.hid hy
      clear hy
      by_cases hi : rg x = 9218868437227405312
      · rw [if_pos hi] at hr
        rw [if_neg (by rw [hs]; simp)] at hr
        subst hr
        obtain ⟨q, w2, h1, h2, h3⟩ := sub_inf w (x := x) (hi)
        have o5 := ord_nanl (y := 0) h2
        have H3 := Lib.hid h3
        clear K h2 h3 hi hz hyr hys
        go_enter Tryd.func20, Tryd.ntmps20
        go_wp2_with fail
        go_ret
        exact ⟨rfl, H3.out⟩
      · rw [if_neg hi] at hr
        have hf : rg x < 9218868437227405312 := by have := rg_cases hx; omega
        have hsb := sub_same (x := x) (hf)
        have hsub := fun w => run_float_arith (P := Tryd.prog) w .sub 23 .f64 x x 0 hsb
        have o6 : FloatKind.f64.format.order 0 0 = some .eq := ord_self (by decide)
        have hpw := pW_is hf (a := x) rfl hs
        obtain ⟨p, hp⟩ : ∃ p, pW x = p := ⟨_, rfl⟩
        rw [hp] at hr hpw
        have HP := Lib.hid hp
        have hm := fun w => run_float_arith (P := Tryd.prog) w .mul 23 .f64 x 4636737291354636288 p hpw.2.1
        have hple := hpw.2.2
        clear hsb hpw hi hp hyr hys
        by_cases hb : kv p < kv c50
        · rw [if_pos hb] at hr
          rw [if_neg (by rw [hs]; simp)] at hr
          subst hr
          have K1 := Lib.hid (K hx hf (HP.out.symm ▸ hb))
          have o2 : FloatKind.f64.format.order p 4832362400168542208 = some .lt := ord_lt (nn_le hple).2.2 (by decide) hb
          obtain ⟨f1, f2, f3, f4, f5, f6, f7, f8⟩ := part_is hple hb
          rw [HP.out] at K1
          unfold numT at K1
          generalize flW p = f at *
          generalize nW p = n at *
          generalize dW p = d at *
          have hcv := fun w => run_convert_float_int (P := Tryd.prog) w 23 2 .f64 .i64 p n (by kernel_rfl) Tryd.underlying2 f3
          have hsd := fun w => run_float_arith (P := Tryd.prog) w .sub 23 .f64 p f d f5
          rw [half_is] at K1
          clear f1 f2 f3 f5 K hb hs hf hz hple
          rcases Int.lt_trichotomy (kv d) 4602678819172646912 with k | k | k
          · have o3 : FloatKind.f64.format.order d 4602678819172646912 = some .lt := ord_lt f6 (by decide) (by rw [half_kv]; exact k)
            rw [if_neg (by omega), Int.add_zero] at K1
            clear k f6
            go_enter Tryd.func20, Tryd.ntmps20
            go_wp2_with fail
            refine K1.out.mono ?_
            rintro e w' ⟨rfl, hx2⟩
            go_wp2_with fail
            go_ret
            exact ⟨rfl, hx2⟩
          · have o3 : FloatKind.f64.format.order d 4602678819172646912 = some .eq := ord_eq f6 (by decide) (by rw [half_kv]; exact k)
            rw [if_pos (by omega)] at K1
            clear k f6
            go_enter Tryd.func20, Tryd.ntmps20
            go_wp2_with fail
            refine K1.out.mono ?_
            rintro e w' ⟨rfl, hx2⟩
            go_wp2_with fail
            go_ret
            exact ⟨rfl, hx2⟩
          · have o3 : FloatKind.f64.format.order d 4602678819172646912 = some .gt := ord_gt f6 (by decide) (by rw [half_kv]; exact k)
            rw [if_pos (by omega)] at K1
            clear k f6
            go_enter Tryd.func20, Tryd.ntmps20
            go_wp2_with fail
            refine K1.out.mono ?_
            rintro e w' ⟨rfl, hx2⟩
            go_wp2_with fail
            go_ret
            exact ⟨rfl, hx2⟩
        · rw [if_neg hb] at hr
          rw [if_neg (by rw [hs]; simp)] at hr
          subst hr
          have o2 : FloatKind.f64.format.order p 4832362400168542208 = some .gt ∨ FloatKind.f64.format.order p 4832362400168542208 = some .eq := by
            rcases Int.lt_trichotomy (kv p) (kv c50) with k | k | k
            · exact absurd k hb
            · exact .inr (ord_eq (nn_le hple).2.2 (by decide) k)
            · exact .inl (ord_gt (nn_le hple).2.2 (by decide) k)
          clear K hb hs hf hz hple
          rcases o2 with o2 | o2
          · go_enter Tryd.func20, Tryd.ntmps20
            go_wp2_with fail
            go_ret
            exact ⟨rfl, Ex.refl w⟩
          · go_enter Tryd.func20, Tryd.ntmps20
            go_wp2_with fail
            go_ret
            exact ⟨rfl, Ex.refl w⟩
    · have oz := ord_gt hx nan_zero (by rw [kv_zero, kv_pos hs]; rw [kv_pos hs] at hz; omega)
      obtain ⟨y, hy⟩ : ∃ y, x = y := ⟨_, rfl⟩
      have hyr : rg y = rg x := by rw [← hy]
      have hys : sg y = false := by rw [← hy, hs]
      have HY := Lib.hid hy
      clear hy
      by_cases hi : rg x = 9218868437227405312
      · rw [if_pos hi] at hr
        rw [if_neg (by rw [hs]; simp)] at hr
        subst hr
        obtain ⟨q, w2, h1, h2, h3⟩ := sub_inf w (x := x) (hi)
        have o5 := ord_nanl (y := 0) h2
        have H3 := Lib.hid h3
        clear K h2 h3 hi hz hyr hys
        go_enter Tryd.func20, Tryd.ntmps20
        go_wp2_with fail
        go_ret
        exact ⟨rfl, H3.out⟩
      · rw [if_neg hi] at hr
        have hf : rg x < 9218868437227405312 := by have := rg_cases hx; omega
        have hsb := sub_same (x := x) (hf)
        have hsub := fun w => run_float_arith (P := Tryd.prog) w .sub 23 .f64 x x 0 hsb
        have o6 : FloatKind.f64.format.order 0 0 = some .eq := ord_self (by decide)
        have hpw := pW_is hf (a := x) rfl hs
        obtain ⟨p, hp⟩ : ∃ p, pW x = p := ⟨_, rfl⟩
        rw [hp] at hr hpw
        have HP := Lib.hid hp
        have hm := fun w => run_float_arith (P := Tryd.prog) w .mul 23 .f64 x 4636737291354636288 p hpw.2.1
        have hple := hpw.2.2
        clear hsb hpw hi hp hyr hys
        by_cases hb : kv p < kv c50
        · rw [if_pos hb] at hr
          rw [if_neg (by rw [hs]; simp)] at hr
          subst hr
          have K1 := Lib.hid (K hx hf (HP.out.symm ▸ hb))
          have o2 : FloatKind.f64.format.order p 4832362400168542208 = some .lt := ord_lt (nn_le hple).2.2 (by decide) hb
          obtain ⟨f1, f2, f3, f4, f5, f6, f7, f8⟩ := part_is hple hb
          rw [HP.out] at K1
          unfold numT at K1
          generalize flW p = f at *
          generalize nW p = n at *
          generalize dW p = d at *
          have hcv := fun w => run_convert_float_int (P := Tryd.prog) w 23 2 .f64 .i64 p n (by kernel_rfl) Tryd.underlying2 f3
          have hsd := fun w => run_float_arith (P := Tryd.prog) w .sub 23 .f64 p f d f5
          rw [half_is] at K1
          clear f1 f2 f3 f5 K hb hs hf hz hple
          rcases Int.lt_trichotomy (kv d) 4602678819172646912 with k | k | k
          · have o3 : FloatKind.f64.format.order d 4602678819172646912 = some .lt := ord_lt f6 (by decide) (by rw [half_kv]; exact k)
            rw [if_neg (by omega), Int.add_zero] at K1
            clear k f6
            go_enter Tryd.func20, Tryd.ntmps20
            go_wp2_with fail
            refine K1.out.mono ?_
            rintro e w' ⟨rfl, hx2⟩
            go_wp2_with fail
            go_ret
            exact ⟨rfl, hx2⟩
          · have o3 : FloatKind.f64.format.order d 4602678819172646912 = some .eq := ord_eq f6 (by decide) (by rw [half_kv]; exact k)
            rw [if_pos (by omega)] at K1
            clear k f6
            go_enter Tryd.func20, Tryd.ntmps20
            go_wp2_with fail
            refine K1.out.mono ?_
            rintro e w' ⟨rfl, hx2⟩
            go_wp2_with fail
            go_ret
            exact ⟨rfl, hx2⟩
          · have o3 : FloatKind.f64.format.order d 4602678819172646912 = some .gt := ord_gt f6 (by decide) (by rw [half_kv]; exact k)
            rw [if_pos (by omega)] at K1
            clear k f6
            go_enter Tryd.func20, Tryd.ntmps20
            go_wp2_with fail
            refine K1.out.mono ?_
            rintro e w' ⟨rfl, hx2⟩
            go_wp2_with fail
            go_ret
            exact ⟨rfl, hx2⟩
        · rw [if_neg hb] at hr
          rw [if_neg (by rw [hs]; simp)] at hr
          subst hr
          have o2 : FloatKind.f64.format.order p 4832362400168542208 = some .gt ∨ FloatKind.f64.format.order p 4832362400168542208 = some .eq := by
            rcases Int.lt_trichotomy (kv p) (kv c50) with k | k | k
            · exact absurd k hb
            · exact .inr (ord_eq (nn_le hple).2.2 (by decide) k)
            · exact .inl (ord_gt (nn_le hple).2.2 (by decide) k)
          clear K hb hs hf hz hple
          rcases o2 with o2 | o2
          · go_enter Tryd.func20, Tryd.ntmps20
            go_wp2_with fail
            go_ret
            exact ⟨rfl, Ex.refl w⟩
          · go_enter Tryd.func20, Tryd.ntmps20
            go_wp2_with fail
            go_ret
            exact ⟨rfl, Ex.refl w⟩
    · have oz := zero_is hx hz
      have iv := inv_zero hz
      rw [hs] at iv
      have rv := fun (w : World) => run_float_arith (P := Tryd.prog) w .quo 23 .f64 4607182418800017408 x _ iv
      have oi := rinf_lt
      clear iv
      have hn := fun w => neg_run w x
      obtain ⟨y, hy⟩ : ∃ y, ng x = y := ⟨_, rfl⟩
      have hyr : rg y = rg x := by rw [← hy, ng_rg]
      have hys : sg y = false := by rw [← hy, ng_sg, hs]; rfl
      rw [hy] at hn
      clear hy
      by_cases hi : rg x = 9218868437227405312
      · rw [if_pos hi] at hr
        rw [if_pos hs] at hr
        subst hr
        obtain ⟨q, w2, h1, h2, h3⟩ := sub_inf w (x := y) (by rw [hyr]; exact hi)
        have o5 := ord_nanl (y := 0) h2
        have H3 := Lib.hid h3
        clear K h2 h3 hi hz hyr hys
        go_enter Tryd.func20, Tryd.ntmps20
        go_wp2_with fail
        go_ret
        exact ⟨rfl, H3.out⟩
      · rw [if_neg hi] at hr
        have hf : rg x < 9218868437227405312 := by have := rg_cases hx; omega
        have hsb := sub_same (x := y) (by rw [hyr]; exact hf)
        have hsub := fun w => run_float_arith (P := Tryd.prog) w .sub 23 .f64 y y 0 hsb
        have o6 : FloatKind.f64.format.order 0 0 = some .eq := ord_self (by decide)
        have hpw := pW_is hf hyr hys
        obtain ⟨p, hp⟩ : ∃ p, pW x = p := ⟨_, rfl⟩
        rw [hp] at hr hpw
        have HP := Lib.hid hp
        have hm := fun w => run_float_arith (P := Tryd.prog) w .mul 23 .f64 y 4636737291354636288 p hpw.2.1
        have hple := hpw.2.2
        clear hsb hpw hi hp hyr hys
        by_cases hb : kv p < kv c50
        · rw [if_pos hb] at hr
          rw [if_pos hs] at hr
          subst hr
          have K1 := Lib.hid (K hx hf (HP.out.symm ▸ hb))
          have o2 : FloatKind.f64.format.order p 4832362400168542208 = some .lt := ord_lt (nn_le hple).2.2 (by decide) hb
          obtain ⟨f1, f2, f3, f4, f5, f6, f7, f8⟩ := part_is hple hb
          rw [HP.out] at K1
          unfold numT at K1
          generalize flW p = f at *
          generalize nW p = n at *
          generalize dW p = d at *
          have hcv := fun w => run_convert_float_int (P := Tryd.prog) w 23 2 .f64 .i64 p n (by kernel_rfl) Tryd.underlying2 f3
          have hsd := fun w => run_float_arith (P := Tryd.prog) w .sub 23 .f64 p f d f5
          rw [half_is] at K1
          clear f1 f2 f3 f5 K hb hs hf hz hple
          rcases Int.lt_trichotomy (kv d) 4602678819172646912 with k | k | k
          · have o3 : FloatKind.f64.format.order d 4602678819172646912 = some .lt := ord_lt f6 (by decide) (by rw [half_kv]; exact k)
            rw [if_neg (by omega), Int.add_zero] at K1
            clear k f6
            go_enter Tryd.func20, Tryd.ntmps20
            go_wp2_with fail
            refine K1.out.mono ?_
            rintro e w' ⟨rfl, hx2⟩
            go_wp2_with fail
            go_ret
            exact ⟨rfl, hx2⟩
          · have o3 : FloatKind.f64.format.order d 4602678819172646912 = some .eq := ord_eq f6 (by decide) (by rw [half_kv]; exact k)
            rw [if_pos (by omega)] at K1
            clear k f6
            go_enter Tryd.func20, Tryd.ntmps20
            go_wp2_with fail
            refine K1.out.mono ?_
            rintro e w' ⟨rfl, hx2⟩
            go_wp2_with fail
            go_ret
            exact ⟨rfl, hx2⟩
          · have o3 : FloatKind.f64.format.order d 4602678819172646912 = some .gt := ord_gt f6 (by decide) (by rw [half_kv]; exact k)
            rw [if_pos (by omega)] at K1
            clear k f6
            go_enter Tryd.func20, Tryd.ntmps20
            go_wp2_with fail
            refine K1.out.mono ?_
            rintro e w' ⟨rfl, hx2⟩
            go_wp2_with fail
            go_ret
            exact ⟨rfl, hx2⟩
        · rw [if_neg hb] at hr
          rw [if_pos hs] at hr
          subst hr
          have o2 : FloatKind.f64.format.order p 4832362400168542208 = some .gt ∨ FloatKind.f64.format.order p 4832362400168542208 = some .eq := by
            rcases Int.lt_trichotomy (kv p) (kv c50) with k | k | k
            · exact absurd k hb
            · exact .inr (ord_eq (nn_le hple).2.2 (by decide) k)
            · exact .inl (ord_gt (nn_le hple).2.2 (by decide) k)
          clear K hb hs hf hz hple
          rcases o2 with o2 | o2
          · go_enter Tryd.func20, Tryd.ntmps20
            go_wp2_with fail
            go_ret
            exact ⟨rfl, Ex.refl w⟩
          · go_enter Tryd.func20, Tryd.ntmps20
            go_wp2_with fail
            go_ret
            exact ⟨rfl, Ex.refl w⟩
    · have oz := ord_lt hx nan_zero (by rw [kv_zero, kv_neg hs]; rw [kv_neg hs] at hz; omega)
      have hn := fun w => neg_run w x
      obtain ⟨y, hy⟩ : ∃ y, ng x = y := ⟨_, rfl⟩
      have hyr : rg y = rg x := by rw [← hy, ng_rg]
      have hys : sg y = false := by rw [← hy, ng_sg, hs]; rfl
      rw [hy] at hn
      clear hy
      by_cases hi : rg x = 9218868437227405312
      · rw [if_pos hi] at hr
        rw [if_pos hs] at hr
        subst hr
        obtain ⟨q, w2, h1, h2, h3⟩ := sub_inf w (x := y) (by rw [hyr]; exact hi)
        have o5 := ord_nanl (y := 0) h2
        have H3 := Lib.hid h3
        clear K h2 h3 hi hz hyr hys
        go_enter Tryd.func20, Tryd.ntmps20
        go_wp2_with fail
        go_ret
        exact ⟨rfl, H3.out⟩
      · rw [if_neg hi] at hr
        have hf : rg x < 9218868437227405312 := by have := rg_cases hx; omega
        have hsb := sub_same (x := y) (by rw [hyr]; exact hf)
        have hsub := fun w => run_float_arith (P := Tryd.prog) w .sub 23 .f64 y y 0 hsb
        have o6 : FloatKind.f64.format.order 0 0 = some .eq := ord_self (by decide)
        have hpw := pW_is hf hyr hys
        obtain ⟨p, hp⟩ : ∃ p, pW x = p := ⟨_, rfl⟩
        rw [hp] at hr hpw
        have HP := Lib.hid hp
        have hm := fun w => run_float_arith (P := Tryd.prog) w .mul 23 .f64 y 4636737291354636288 p hpw.2.1
        have hple := hpw.2.2
        clear hsb hpw hi hp hyr hys
        by_cases hb : kv p < kv c50
        · rw [if_pos hb] at hr
          rw [if_pos hs] at hr
          subst hr
          have K1 := Lib.hid (K hx hf (HP.out.symm ▸ hb))
          have o2 : FloatKind.f64.format.order p 4832362400168542208 = some .lt := ord_lt (nn_le hple).2.2 (by decide) hb
          obtain ⟨f1, f2, f3, f4, f5, f6, f7, f8⟩ := part_is hple hb
          rw [HP.out] at K1
          unfold numT at K1
          generalize flW p = f at *
          generalize nW p = n at *
          generalize dW p = d at *
          have hcv := fun w => run_convert_float_int (P := Tryd.prog) w 23 2 .f64 .i64 p n (by kernel_rfl) Tryd.underlying2 f3
          have hsd := fun w => run_float_arith (P := Tryd.prog) w .sub 23 .f64 p f d f5
          rw [half_is] at K1
          clear f1 f2 f3 f5 K hb hs hf hz hple
          rcases Int.lt_trichotomy (kv d) 4602678819172646912 with k | k | k
          · have o3 : FloatKind.f64.format.order d 4602678819172646912 = some .lt := ord_lt f6 (by decide) (by rw [half_kv]; exact k)
            rw [if_neg (by omega), Int.add_zero] at K1
            clear k f6
            go_enter Tryd.func20, Tryd.ntmps20
            go_wp2_with fail
            refine K1.out.mono ?_
            rintro e w' ⟨rfl, hx2⟩
            go_wp2_with fail
            go_ret
            exact ⟨rfl, hx2⟩
          · have o3 : FloatKind.f64.format.order d 4602678819172646912 = some .eq := ord_eq f6 (by decide) (by rw [half_kv]; exact k)
            rw [if_pos (by omega)] at K1
            clear k f6
            go_enter Tryd.func20, Tryd.ntmps20
            go_wp2_with fail
            refine K1.out.mono ?_
            rintro e w' ⟨rfl, hx2⟩
            go_wp2_with fail
            go_ret
            exact ⟨rfl, hx2⟩
          · have o3 : FloatKind.f64.format.order d 4602678819172646912 = some .gt := ord_gt f6 (by decide) (by rw [half_kv]; exact k)
            rw [if_pos (by omega)] at K1
            clear k f6
            go_enter Tryd.func20, Tryd.ntmps20
            go_wp2_with fail
            refine K1.out.mono ?_
            rintro e w' ⟨rfl, hx2⟩
            go_wp2_with fail
            go_ret
            exact ⟨rfl, hx2⟩
        · rw [if_neg hb] at hr
          rw [if_pos hs] at hr
          subst hr
          have o2 : FloatKind.f64.format.order p 4832362400168542208 = some .gt ∨ FloatKind.f64.format.order p 4832362400168542208 = some .eq := by
            rcases Int.lt_trichotomy (kv p) (kv c50) with k | k | k
            · exact absurd k hb
            · exact .inr (ord_eq (nn_le hple).2.2 (by decide) k)
            · exact .inl (ord_gt (nn_le hple).2.2 (by decide) k)
          clear K hb hs hf hz hple
          rcases o2 with o2 | o2
          · go_enter Tryd.func20, Tryd.ntmps20
            go_wp2_with fail
            go_ret
            exact ⟨rfl, Ex.refl w⟩
          · go_enter Tryd.func20, Tryd.ntmps20
            go_wp2_with fail
            go_ret
            exact ⟨rfl, Ex.refl w⟩
  · rw [if_pos hx] at hr
    subst hr
    have o1 := ord_nanl (y := x) hx
    clear K hl
    go_enter Tryd.func20, Tryd.ntmps20
    go_wp2_with fail
    go_ret
    exact ⟨rfl, Ex.refl w⟩

end Go.Proofs.YthhgpoihkmokcaaDoor
