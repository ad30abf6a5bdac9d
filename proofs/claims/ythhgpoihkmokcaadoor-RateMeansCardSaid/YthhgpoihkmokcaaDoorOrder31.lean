/- RateOrder. -/
import Derived.Test.YthhgpoihkmokcaaDoorTold31
namespace Go.Proofs.YthhgpoihkmokcaaDoor
open Go.RowKit Ieee
set_option linter.unusedVariables false

theorem few_any (w : World) (a : Option Addr) (n cap : Nat) (z : Bool) (hz : decide (n ≤ 60) = z) : Calls Tryd.prog 10 #[.slice a n cap] w fun e w' => e = .returned (.bool z) ∧ w = w' := by
  have hz' : decide ((n : Int) ≤ 60) = z := by rw [← hz]; congr 1; exact propext ⟨fun h => by omega, fun h => by omega⟩
  subst hz'
  clear hz
  go_enter Tryd.func10, Tryd.ntmps10
  go_wp2
  go_ret
  exact ⟨rfl, rfl⟩

/-- How many of the first i are greater. -/
def cntG (l : List Nat) (x i : Nat) : Nat := (l.take i).countP (fun y => decide (key x < key y))
theorem cntG_succ {l : List Nat} {x i : Nat} (hi : i < l.length) : cntG l x (i + 1) = if key x < key (l.getD i 0) then cntG l x i + 1 else cntG l x i := by
  unfold cntG
  rw [List.take_add_one, List.countP_append]
  simp only [hi, List.getElem?_eq_getElem, Option.toList_some, List.countP_singleton, List.getD_eq_getElem?_getD, Option.getD_some]
  split <;> simp_all
theorem cntG_le (l : List Nat) (x i : Nat) (h : i ≤ l.length) : cntG l x i ≤ i := by
  unfold cntG
  have := List.countP_le_length (p := fun y => decide (key x < key y)) (l := l.take i)
  rw [List.length_take] at this
  omega
theorem cntG_all {l M R : List Nat} {x : Nat} (hp : (M ++ R).Perm l) (hx : x ∈ M) (hR : ∀ b ∈ R, key b ≤ key x) : cntG l x l.length < M.length := by
  unfold cntG
  rw [List.take_length, ← hp.countP_eq, List.countP_append]
  have h0 : R.countP (fun y => decide (key x < key y)) = 0 := by
    rw [List.countP_eq_zero]
    intro b hb
    have := hR b hb
    simp; omega
  rw [h0, Nat.add_zero]
  have h1 := List.countP_le_length (p := fun y => decide (key x < key y)) (l := M)
  have h2 : M.countP (fun y => decide (key x < key y)) ≠ M.length := by
    intro e
    have := List.countP_eq_length.1 e x hx
    simp at this
  omega

theorem len_val {w : World} {base n : Nat} {v : Value} {l : List Nat} (hl : l.length = n) (h : RowF w base v l) : ∃ a c, v = .slice a n c := by
  obtain ⟨a, c, e, -⟩ := h.fs
  exact ⟨a, c, by rw [e, hl]⟩

set_option maxRecDepth 20000 in
set_option maxHeartbeats 12800000 in
theorem walk_RateOrder {a : Option Addr} {n : Nat} (cap : Nat) {l : List Nat} (k : Int) (w : World) (h : n ≤ 60 → Fs w a n l) :
    Calls Tryd.prog 5 #[.slice a n cap, .int .i64 k] w fun e w' => e = .returned (.bool true) ∧ Ex w w' := by
  by_cases hn : n ≤ 60
  · have H := Lib.hid (h hn)
    have HL : Hid (l.length = n) := Lib.hid (h hn).1
    have kb := umod_bd k 71 (by omega)
    obtain ⟨K, hK⟩ : ∃ K : Nat, (IntKind.u64.wrap k).tmod 71 = (K : Int) := ⟨((IntKind.u64.wrap k).tmod 71).toNat, by omega⟩
    rw [hK] at kb
    have hK71 : K < 71 := by omega
    have q0 : wrap64 (K : Int) = (K : Int) := by unfold wrap64; omega
    obtain ⟨M, hM⟩ : ∃ M, mostF K l = M := ⟨_, rfl⟩
    have ml := most_laws K l
    rw [hM] at ml
    obtain ⟨m1, m2, R, m3, m4⟩ := ml
    have hmin : M.length = min K n := by rw [m2, (h hn).1]
    have M1 := Lib.hid m1
    have M3 := Lib.hid m3
    have M4 := Lib.hid m4
    have hMl : M.length ≤ 60 := by omega
    have i1 := Lib.hid (few_any w a n cap true (decide_eq_true hn))
    have hmn : ∀ ts t (w : World), (Builtin.min_ ts t #[.int .i64 (K : Int), .int .i64 (n : Int)]).run Tryd.prog w = .ok (.int .i64 (M.length : Int)) w := fun ts t w => by
      rw [run_min_int2]
      congr 2
      split <;> omega
    clear h m1 m2 m3 m4 kb hmin
    go_enter Tryd.func5, Tryd.ntmps5
    go_wp2_with fail
    refine i1.out.mono ?_
    rintro e w' ⟨rfl, rfl⟩
    go_wp2_with fail
    refine (most_any cap H.out (by omega) (K : Int) K (by omega)).mono ?_
    rintro e w2 ⟨v, rfl, hrow, hx⟩
    rw [hM] at hrow
    obtain ⟨va, vc, rfl, hF⟩ := hrow.fs
    have HF := Lib.hid hF
    have E2 := Lib.hid hx
    clear hrow hF hx hM i1 hK
    go_wp2_with fail
    go_loopw [7] (fun jv wr => ∃ i j : Nat, i = j + 1 ∧ jv = .int .i64 i ∧ (i ≤ M.length ∨ i = 1) ∧ Ex w2 wr) (fun jv _ => 100 - (intOf jv).toNat)
    case atStart => exact ⟨1, 0, rfl, rfl, .inr rfl, Ex.refl _⟩
    case round =>
      obtain ⟨i, j, hij, rfl, hi, hx⟩ := hrel
      have HX := Lib.hid hx
      have q1 : (i : Int) - 1 = (j : Int) := by omega
      have q2 : wrap64 (j : Int) = (j : Int) := by unfold wrap64; omega
      by_cases hlt : i < M.length
      · have q3 : (i : Int) < (M.length : Int) := by omega
        have q4 : (j : Int) < (M.length : Int) := by omega
        obtain ⟨x, hxx⟩ : ∃ x, M.getD j 0 = x := ⟨_, rfl⟩
        obtain ⟨y, hy⟩ : ∃ y, M.getD i 0 = y := ⟨_, rfl⟩
        have hk : key y ≤ key x := by rw [← hxx, ← hy]; exact fall_at M1.out (by omega) hlt
        obtain ⟨b, off, rfl, hb, hc⟩ := (HF.out.ex HX.out).2.resolve_left (by omega)
        have c0 : wr.cell? ⟨b, off + j, none⟩ = some (.float .f64 x) := hxx ▸ hc j (by omega)
        have c1 : wr.cell? ⟨b, off + i, none⟩ = some (.float .f64 y) := hy ▸ hc i hlt
        have z0 : ∀ o : Out wr, o.w.cell? ⟨b, off + j, none⟩ = some (.float .f64 x) := fun o => cell_later o.2 c0
        have z1 : ∀ o : Out wr, o.w.cell? ⟨b, off + i, none⟩ = some (.float .f64 y) := fun o => cell_later o.2 c1
        have hl : ∀ o : Out wr, Calls Tryd.prog 24 #[.float .f64 x, .float .f64 y] o.w fun e w' => e = .returned (.bool false) ∧ o.w = w' := fun o => rless_any o.w x y false (by simp; omega)
        have HI : Hid (i < M.length) := Lib.hid hlt
        have HIJ := Lib.hid hij
        clear hxx hy hk hc c0 c1 hx hi hb hij hlt
        go_upto_region 10 with fail
        refine wp_region_ex (by kernel_rfl) (by kernel_rfl) ?_
        repeat (go_big_quiet_step ((go_at_call 24; exact quiet_eq (hl _))))
        refine wpQuiet_nil ?_
        rintro w4 ⟨⟨wz, hw⟩, rfl⟩
        have HW := Lib.hid hw
        clear hw hl z0 z1
        go_wp2_with fail
        go_roundw
        case rel =>
          refine ⟨i + 1, i, rfl, by simp, .inl HI.out, HX.out.trans HW.out⟩
        case measure => have := HI.out; simp [intOf]; omega
      · have q3 : ¬ ((i : Int) < (M.length : Int)) := by omega
        have hmg : 0 < M.length → cntG l (M.getD (M.length - 1) 0) n < M.length := fun h0 => by
          have e : M.getD (M.length - 1) 0 ∈ M := by
            have : M.getD (M.length - 1) 0 = M[M.length - 1] := by simp [show M.length - 1 < M.length by omega]
            rw [this]; exact List.getElem_mem _
          have := cntG_all M3.out e (fun b hb => M4.out _ e b hb)
          rwa [HL.out] at this
        have HG := Lib.hid hmg
        have HI : Hid (¬ i < M.length) := Lib.hid hlt
        obtain ⟨x, hx⟩ : ∃ x, M.getD (M.length - 1) 0 = x := ⟨_, rfl⟩
        rw [hx] at HG
        have HXL := Lib.hid hx
        have HX1 := Lib.hid (E2.out.trans HX.out)
        have HF1 := Lib.hid (HF.out.ex HX.out)
        clear hij hlt hi hx hmg
        go_wp2_with fail
        go_loopw [8, 9] (fun cv iv ws => ∃ c i2 : Nat, i2 ≤ n ∧ iv = .int .i64 i2 ∧ cv = .int .i64 c ∧ (M.length = 0 ∨ c = cntG l x i2) ∧ Ex wr ws) (fun _ iv _ => n - (intOf iv).toNat)
        case atStart => exact ⟨0, 0, by omega, rfl, rfl, .inr (by simp [cntG]), Ex.refl _⟩
        case round =>
          obtain ⟨c, i2, hi2, rfl, rfl, hc, hx⟩ := hrel
          have HS := Lib.hid hx
          have HC := Lib.hid hc
          clear hx hc
          by_cases hgo : i2 < n ∧ 0 < M.length
          · obtain ⟨g1, g2⟩ := hgo
            have r1 : (i2 : Int) < (n : Int) := by omega
            have r2 : (0 : Int) < (M.length : Int) := by omega
            have hce : c = cntG l x i2 := HC.out.resolve_left (by omega)
            have hcl := cntG_le l x i2 (by rw [HL.out]; omega)
            obtain ⟨y, hy⟩ : ∃ y, l.getD i2 0 = y := ⟨_, rfl⟩
            have HSU := Lib.hid (cntG_succ (l := l) (x := x) (i := i2) (by rw [HL.out]; omega))
            rw [hy] at HSU
            obtain ⟨m1, hm1⟩ : ∃ m1, M.length - 1 = m1 := ⟨_, rfl⟩
            have r3 : (M.length : Int) - 1 = (m1 : Int) := by clear q0 q1 q2; omega
            have r4 : wrap64 (m1 : Int) = (m1 : Int) := by clear q0 q1 q2; unfold wrap64; omega
            have r5 : (m1 : Int) < (M.length : Int) := by clear q0 q1 q2 r4; omega
            obtain ⟨b, off, rfl, hb, hcm⟩ := (HF1.out.ex HS.out).2.resolve_left (Nat.ne_of_gt g2)
            obtain ⟨b2, off2, rfl, hb2, hcl2⟩ := (H.out.ex (HX1.out.trans HS.out)).2.resolve_left (Nat.ne_of_gt (Nat.lt_of_le_of_lt (Nat.zero_le _) g1))
            have c0 : wr.cell? ⟨b, off + m1, none⟩ = some (.float .f64 x) := by
              have := hcm m1 (hm1 ▸ Nat.sub_lt g2 (Nat.zero_lt_one))
              rw [← hm1, HXL.out] at this
              rwa [hm1] at this
            have c1 : wr.cell? ⟨b2, off2 + i2, none⟩ = some (.float .f64 y) := hy ▸ hcl2 i2 g1
            have z0 : ∀ o : Out wr, o.w.cell? ⟨b, off + m1, none⟩ = some (.float .f64 x) := fun o => cell_later o.2 c0
            have z1 : ∀ o : Out wr, o.w.cell? ⟨b2, off2 + i2, none⟩ = some (.float .f64 y) := fun o => cell_later o.2 c1
            have HCE := Lib.hid hce
            have HCL : Hid (c ≤ 60) := Lib.hid (by clear q0 q1 q2 r4 r3 r5; omega)
            have hc60 : (c : Int) ≤ 60 := by clear q0 q1 q2 r4 r3 r5; omega
            cases hk : decide (key x < key y)
            · have hl : ∀ o : Out wr, Calls Tryd.prog 24 #[.float .f64 x, .float .f64 y] o.w fun e w' => e = .returned (.bool false) ∧ o.w = w' := fun o => rless_any o.w x y false hk
              have HK : Hid (¬ key x < key y) := Lib.hid (of_decide_eq_false hk)
              clear hy hm1 hcm hcl2 c0 c1 hce hk hb hb2 hcl
              go_upto_region 16 with fail
              refine wp_region_ex (by kernel_rfl) (by kernel_rfl) ?_
              repeat (go_big_quiet_step ((go_at_call 24; exact quiet_eq (hl _))))
              refine wpQuiet_nil ?_
              rintro w4 ⟨⟨wz, hw⟩, rfl⟩
              have HW := Lib.hid hw
              clear hw hl z0 z1
              go_wp2_with fail
              go_roundw
              case rel =>
                refine ⟨c, i2 + 1, by omega, by simp, rfl, .inr ?_, HS.out.trans HW.out⟩
                rw [HSU.out, if_neg HK.out]; exact HCE.out
              case measure => simp [intOf]; omega
            · have hl : ∀ o : Out wr, Calls Tryd.prog 24 #[.float .f64 x, .float .f64 y] o.w fun e w' => e = .returned (.bool true) ∧ o.w = w' := fun o => rless_any o.w x y true hk
              have HK : Hid (key x < key y) := Lib.hid (of_decide_eq_true hk)
              clear hy hm1 hcm hcl2 c0 c1 hce hk hb hb2 hcl
              go_upto_region 16 with fail
              refine wp_region_ex (by kernel_rfl) (by kernel_rfl) ?_
              repeat (go_big_quiet_step ((go_at_call 24; exact quiet_eq (hl _))))
              refine wpQuiet_nil ?_
              rintro w4 ⟨⟨wz, hw⟩, rfl⟩
              have HW := Lib.hid hw
              clear hw hl z0 z1
              go_wp2_with fail
              go_roundw
              case rel =>
                refine ⟨c + 1, i2 + 1, by omega, by simp, by simp, .inr ?_, HS.out.trans HW.out⟩
                rw [HSU.out, if_pos HK.out, HCE.out]
              case measure => simp [intOf]; omega
          · have HXX := Lib.hid (HX1.out.trans HS.out)
            have N200 : Hid (n ≤ 200) := Lib.hid (by clear q0 q1 q2; omega)
            have L100 : Hid ((mostF 100 l).length = n) := Lib.hid (by rw [(most_laws 100 l).2.1, HL.out]; clear q0 q1 q2; omega)
            have L0 : Hid ((mostF 0 l).length = 0) := Lib.hid (by rw [(most_laws 0 l).2.1]; simp)
            by_cases hM0 : M.length = 0
            · by_cases h2 : i2 < n
              · have r1 : (i2 : Int) < (n : Int) := by clear q0 q1 q2; omega
                rw [hM0]
                clear hgo hM0 h2
                go_wp2_with fail
                refine (told_any wr).mono ?_
                rintro e w5 ⟨rfl, hx5⟩
                have E5 := Lib.hid (HXX.out.trans hx5)
                clear hx5
                go_wp2_with fail
                refine (most_any cap (H.out.ex E5.out) N200.out 100 100 rfl).mono ?_
                rintro e w6 ⟨v6, rfl, hr6, hx6⟩
                obtain ⟨a6, c6, rfl⟩ : ∃ a c, v6 = .slice a n c := len_val (L100.out) hr6
                have E6 := Lib.hid (E5.out.trans hx6)
                clear hx6 hr6
                go_wp2_with fail
                refine (most_any cap (H.out.ex E6.out) N200.out 0 0 rfl).mono ?_
                rintro e w7 ⟨v7, rfl, hr7, hx7⟩
                obtain ⟨a7, c7, rfl⟩ : ∃ a c, v7 = .slice a 0 c := len_val (L0.out) hr7
                have E7 := Lib.hid (E6.out.trans hx7)
                clear hx7 hr7
                go_wp2_with fail
                refine (most_any cap (H.out.ex E7.out) N200.out (-1) 0 rfl).mono ?_
                rintro e w8 ⟨v8, rfl, hr8, hx8⟩
                obtain ⟨a8, c8, rfl⟩ : ∃ a c, v8 = .slice a 0 c := len_val (L0.out) hr8
                have E8 := Lib.hid (E7.out.trans hx8)
                clear hx8 hr8
                go_wp2_with fail
                go_ret
                exact ⟨rfl, E8.out⟩
              · have r1 : ¬ ((i2 : Int) < (n : Int)) := by clear q0 q1 q2; omega
                rw [hM0]
                clear hgo hM0 h2
                go_wp2_with fail
                refine (told_any wr).mono ?_
                rintro e w5 ⟨rfl, hx5⟩
                have E5 := Lib.hid (HXX.out.trans hx5)
                clear hx5
                go_wp2_with fail
                refine (most_any cap (H.out.ex E5.out) N200.out 100 100 rfl).mono ?_
                rintro e w6 ⟨v6, rfl, hr6, hx6⟩
                obtain ⟨a6, c6, rfl⟩ : ∃ a c, v6 = .slice a n c := len_val (L100.out) hr6
                have E6 := Lib.hid (E5.out.trans hx6)
                clear hx6 hr6
                go_wp2_with fail
                refine (most_any cap (H.out.ex E6.out) N200.out 0 0 rfl).mono ?_
                rintro e w7 ⟨v7, rfl, hr7, hx7⟩
                obtain ⟨a7, c7, rfl⟩ : ∃ a c, v7 = .slice a 0 c := len_val (L0.out) hr7
                have E7 := Lib.hid (E6.out.trans hx7)
                clear hx7 hr7
                go_wp2_with fail
                refine (most_any cap (H.out.ex E7.out) N200.out (-1) 0 rfl).mono ?_
                rintro e w8 ⟨v8, rfl, hr8, hx8⟩
                obtain ⟨a8, c8, rfl⟩ : ∃ a c, v8 = .slice a 0 c := len_val (L0.out) hr8
                have E8 := Lib.hid (E7.out.trans hx8)
                clear hx8 hr8
                go_wp2_with fail
                go_ret
                exact ⟨rfl, E8.out⟩
            · have r1 : ¬ ((i2 : Int) < (n : Int)) := by clear q0 q1 q2; omega
              have hi3 : i2 = n := by clear q0 q1 q2 r1; omega
              have hcc : c < M.length := by
                rw [HC.out.resolve_left hM0, hi3]
                exact HG.out (Nat.pos_of_ne_zero hM0)
              have r2 : (0 : Int) < (M.length : Int) := by clear q0 q1 q2 r1; omega
              have r3 : ¬ ((M.length : Int) ≤ (c : Int)) := by clear q0 q1 q2 r1; omega
              clear hgo hM0 hi3 hcc
              go_wp2_with fail
              refine (told_any wr).mono ?_
              rintro e w5 ⟨rfl, hx5⟩
              have E5 := Lib.hid (HXX.out.trans hx5)
              clear hx5
              go_wp2_with fail
              refine (most_any cap (H.out.ex E5.out) N200.out 100 100 rfl).mono ?_
              rintro e w6 ⟨v6, rfl, hr6, hx6⟩
              obtain ⟨a6, c6, rfl⟩ : ∃ a c, v6 = .slice a n c := len_val (L100.out) hr6
              have E6 := Lib.hid (E5.out.trans hx6)
              clear hx6 hr6
              go_wp2_with fail
              refine (most_any cap (H.out.ex E6.out) N200.out 0 0 rfl).mono ?_
              rintro e w7 ⟨v7, rfl, hr7, hx7⟩
              obtain ⟨a7, c7, rfl⟩ : ∃ a c, v7 = .slice a 0 c := len_val (L0.out) hr7
              have E7 := Lib.hid (E6.out.trans hx7)
              clear hx7 hr7
              go_wp2_with fail
              refine (most_any cap (H.out.ex E7.out) N200.out (-1) 0 rfl).mono ?_
              rintro e w8 ⟨v8, rfl, hr8, hx8⟩
              obtain ⟨a8, c8, rfl⟩ : ∃ a c, v8 = .slice a 0 c := len_val (L0.out) hr8
              have E8 := Lib.hid (E7.out.trans hx8)
              clear hx8 hr8
              go_wp2_with fail
              go_ret
              exact ⟨rfl, E8.out⟩
  · have i1 := Lib.hid (few_any w a n cap false (decide_eq_false hn))
    clear h hn
    go_enter Tryd.func5, Tryd.ntmps5
    go_wp2_with fail
    refine i1.out.mono ?_
    rintro e w' ⟨rfl, rfl⟩
    go_wp2_with fail
    refine (told_any w).mono ?_
    rintro e w4 ⟨rfl, hx⟩
    go_wp2_with fail
    go_ret
    exact ⟨rfl, hx⟩

end Go.Proofs.YthhgpoihkmokcaaDoor
