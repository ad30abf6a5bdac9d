/- CreditPays: the walk. -/
import Derived.Test.YtomegcicfpmefaaPays22
namespace Go.Proofs.Ytomegcicfpmefaa
open Go.RowKit Go.Maps
set_option linter.unusedVariables false

theorem obank {w0 w : World} {b mb n : Nat} {r bank x c : Int} {f : Int → Int × Int} (h : Own1 w0 w b mb r bank f n) (hx : 0 < x) (hx2 : x ≤ 9223372036854775807) (hc : fAdd bank x = c) :
    Calls Try.prog 16 #[.pointer (some ⟨b, 0, none⟩), .int .i64 x] w fun e w' => e = .returned (.tuple #[]) ∧ Own1 w0 w' b mb r c f n ∧ Chg (fun k => k = b ∨ k = mb) w w' := by
  have k := bank_yes h.cr x hx ⟨by omega, hx2⟩
  rw [hc] at k
  exact k.mono fun _ _ ⟨he, hk, hch⟩ => ⟨he, h.nxt hk hch, hch⟩

set_option maxRecDepth 10000 in
set_option maxHeartbeats 6400000 in
theorem pays_walk (ratio num : Int) (w : World) :
    Calls Try.prog 5 #[.int .i64 ratio, .int .i64 num] w fun e w' => e = .returned (.bool true) ∧ Below w.heap.size w w' := by
  obtain ⟨q1, q2⟩ := and_small ratio 26 (by omega)
  obtain ⟨q, hq⟩ : ∃ q, bits .and .i64 ratio 67108863 = q := ⟨_, rfl⟩
  rw [show ((2 ^ 26 - 1 : Nat) : Int) = 67108863 from rfl, hq] at q1 q2
  rw [show ((2 ^ 26 : Nat) : Int) = 67108864 from rfl] at q2
  obtain ⟨r, hr⟩ : ∃ r, 131072 + q = r := ⟨_, rfl⟩
  have r1 : 131072 ≤ r := by omega
  have r2 : r < 67239936 := by omega
  obtain ⟨x, hx⟩ : ∃ r, (IntKind.u64.wrap num).tmod 99936 = r := ⟨_, rfl⟩
  obtain ⟨x1, x2⟩ := umod_bd num 99936 (by omega)
  rw [hx] at x1 x2
  obtain ⟨k, hk⟩ : ∃ k, 65 + x = k := ⟨_, rfl⟩
  have k1 : 65 ≤ k := by omega
  have k2 : k ≤ 100000 := by omega
  clear x1 x2 q1 q2
  obtain ⟨s, hs⟩ : ∃ s, 70 * k = s := ⟨_, rfl⟩
  have s1 : 4550 ≤ s := by omega
  have s2 : s ≤ 7000000 := by omega
  have wk := worth_70 r1 r2 k1 k2
  rw [hs] at wk
  have wb := worth_big (r := r) (s := s) r1 r2 (by omega) (by omega)
  have wst := worth_step (r := r) (s := s) r1 r2 (by omega) (by omega)
  obtain ⟨aw, haw⟩ : ∃ aw, fWhole s = aw := ⟨_, rfl⟩
  obtain ⟨dq, hdq⟩ : ∃ dq, fDiv aw r = dq := ⟨_, rfl⟩
  obtain ⟨v, hv⟩ : ∃ v, fInt dq = v := ⟨_, rfl⟩
  have ev : worthV r s = v := by unfold worthV; rw [haw, hdq, hv]
  have ia : I64 aw := by rw [← haw]; exact i_whole _
  rw [ev] at wk wb wst
  obtain ⟨-, v1, v2⟩ := wb
  obtain ⟨M, hM⟩ : ∃ M, 64 + v = M := ⟨_, rfl⟩
  have a0 : fAdd 64 v = M := by rw [add_in (by omega) (by omega)]; exact hM
  have a1 : fAdd 0 s = s := by rw [add_in (by omega) (by omega)]; omega
  have a2 : fAdd 0 k = k := by rw [add_in (by omega) (by omega)]; omega
  have a3 : fAdd k (M - k) = M := by rw [add_in (by omega) (by omega)]; omega
  have a4 : fAdd M 1 = M + 1 := add_in (by omega) (by omega)
  have nd : fAdd (fSub M 64) 1 = v + 1 := by
    have e : fSub M 64 = v := by unfold fSub; rw [clamp_in (by omega) (by omega)]; omega
    rw [e]; exact add_in (by omega) (by omega)
  have hmax : enoughB r s (v + 1) 9223372036854775807 = true := by
    unfold enoughB
    have h1 : s + 65 ≤ fAdd s 9223372036854775807 := by
      unfold fAdd clamp fMax fMin
      split <;> (try split) <;> omega
    have := worth_all (r := r) (by omega) h1
    exact decide_eq_true (by omega)
  have h0 : enoughB r s (v + 1) 0 = false := by
    unfold enoughB
    have e : fAdd s 0 = s := by rw [add_in (by omega) (by omega)]; omega
    rw [e, ev]
    exact decide_eq_false (by omega)
  have h65 : enoughB r s (v + 1) 65 = true := by
    unfold enoughB
    rw [add_in (by omega) (by omega)]
    exact decide_eq_true (by omega)
  have A0 := Lib.hid a0
  have A1 := Lib.hid a1
  have A2 := Lib.hid a2
  have A3 := Lib.hid a3
  have A4 := Lib.hid a4
  have ND := Lib.hid nd
  have HM := Lib.hid hmax
  have H0 := Lib.hid h0
  have H65 := Lib.hid h65
  have K1 := Lib.hid haw
  have K2 := Lib.hid hdq
  have K3 := Lib.hid hv
  have EV := Lib.hid ev
  clear a0 a1 a2 a3 a4 nd hmax h0 h65 haw hdq hv ev wst
  go_enter Try.func5, Try.ntmps5
  go_wp2_with fail
  refine (onew r (by unfold I64; omega) (Ex.refl w)).mono ?_
  rintro e w1 ⟨rfl, h, -⟩
  have C1 := Lib.hid h
  have hsz := h.cr.box.lt
  clear h
  go_wp2_with fail
  refine (onew r (by unfold I64; omega) C1.out.below).mono ?_
  rintro e w2 ⟨rfl, h, hx12⟩
  have D2 := Lib.hid h
  have C2 := Lib.hid (C1.out.ex hx12)
  obtain ⟨mc, hmc⟩ : ∃ mc, w.heap.size = mc := ⟨_, rfl⟩
  obtain ⟨md, hmd⟩ : ∃ md, w1.heap.size = md := ⟨_, rfl⟩
  rw [hmd] at hsz D2
  rw [hmd]
  rw [hmc] at hsz C2
  have bmc : w.heap.size ≤ mc := by omega
  have bmd : w.heap.size ≤ md := by omega
  clear h hx12 C1 hmd
  rw [hmc]
  clear hmc
  go_wp2_with fail
  refine (oscan C2.out (g := 0) rfl wf0 (by omega) (by omega) (by omega) A1.out).mono ?_
  rintro e w3 ⟨rfl, h, hc⟩
  have C3 := Lib.hid h
  have D3 := Lib.hid (D2.out.other hc (by omega) (by omega) (by omega))
  clear h hc C2 D2
  go_wp2_with fail
  refine (oscan D3.out (g := 0) rfl wf0 (by omega) (by omega) (by omega) A1.out).mono ?_
  rintro e w4 ⟨rfl, h, hc⟩
  have D4 := Lib.hid h
  have C4 := Lib.hid (C3.out.other hc (by omega) (by omega) (by omega))
  clear h hc C3 D3
  go_wp2_with fail
  refine (oalloc C4.out (g := 0) (put_same _ _ _) wf0 (by omega) (by omega) (by omega) A2.out (.inr ⟨by omega, by rw [EV.out, A0.out]; omega⟩)).mono ?_
  rintro e w5 ⟨rfl, h, hc⟩
  have C5 := Lib.hid h
  have D5 := Lib.hid (D4.out.other hc (by omega) (by omega) (by omega))
  clear h hc C4 D4
  go_wp2_with fail
  refine (oalloc D5.out (g := 0) (put_same _ _ _) wf0 (by omega) (by omega) (by omega) A2.out (.inr ⟨by omega, by rw [EV.out, A0.out]; omega⟩)).mono ?_
  rintro e w6 ⟨rfl, h, hc⟩
  have D6 := Lib.hid h
  have C6 := Lib.hid (C5.out.other hc (by omega) (by omega) (by omega))
  clear h hc C5 D5
  go_wp2_with fail
  refine (osums C6.out (g := 0) (put_same _ _ _) wf0).mono ?_
  rintro e w7 ⟨rfl, h, hc⟩
  have C7 := Lib.hid h
  have D7 := Lib.hid (D6.out.other hc (by omega) (by omega) (by omega))
  clear h hc C6 D6
  go_wp2_with fail
  refine (rw_whole K1 (by omega) (by omega)).mono ?_
  rintro e w' ⟨rfl, rfl⟩
  go_wp2_with fail
  refine (rw_div K2 ia.1 ia.2 (by omega) (by omega)).mono ?_
  rintro e w8 ⟨rfl, hd⟩
  have C8 := Lib.hid (C7.out.ex hd.ex)
  have D8 := Lib.hid (D7.out.ex hd.ex)
  clear hd C7 D7
  go_wp2_with fail
  refine (rw_int K3).mono ?_
  rintro e w' ⟨rfl, rfl⟩
  go_wp2_with fail
  refine (oalloc C8.out (g := 0) (put_same _ _ _) wf0 (by omega) (by omega) (by omega) A3.out (.inr ⟨by omega, by rw [EV.out, A0.out]; omega⟩)).mono ?_
  rintro e w9 ⟨rfl, h, hc⟩
  have C9 := Lib.hid h
  have D9 := Lib.hid (D8.out.other hc (by omega) (by omega) (by omega))
  clear h hc C8 D8
  go_wp2_with fail
  refine (oalloc D9.out (g := 0) (put_same _ _ _) wf0 (by omega) (by omega) (by omega) A3.out (.inr ⟨by omega, by rw [EV.out, A0.out]; omega⟩)).mono ?_
  rintro e w10 ⟨rfl, h, hc⟩
  have D10 := Lib.hid h
  have C10 := Lib.hid (C9.out.other hc (by omega) (by omega) (by omega))
  clear h hc C9 D9
  go_wp2_with fail
  refine (oallocno C10.out (g := 0) (put_same _ _ _) wf0 (by omega) (by omega) A4.out (by omega) (by rw [EV.out, A0.out]; omega)).mono ?_
  rintro e w11 ⟨rfl, h, hc⟩
  have C11 := Lib.hid h
  have D11 := Lib.hid (D10.out.other hc (by omega) (by omega) (by omega))
  clear h hc C10 D10
  go_wp2_with fail
  refine (owed_search C11.out.cr 0 wf0 (by omega) (put_same _ _ _) (by omega) ND.out HM.out).mono ?_
  rintro e w12 ⟨hx, he⟩
  have hP : ∃ o, e = .returned (.int .i64 o) ∧ 1 ≤ o ∧ o ≤ 65 ∧ enoughB r s (v + 1) (o - 1) = false ∧ enoughB r s (v + 1) o = true := by
    rcases he with ⟨-, h⟩ | ⟨o, rfl, o1, o2, o3, o4⟩
    · rw [H0.out] at h; cases h
    · refine ⟨o, rfl, o1, ?_, o3, o4⟩
      by_cases hlt : o ≤ 65
      · exact hlt
      · have := enough_mono (r := r) (by omega) (show (65 : Int) ≤ o - 1 by omega) H65.out
        rw [o3] at this; cases this
  obtain ⟨o, rfl, o1, o2, o3, o4⟩ := hP
  have C12 := Lib.hid (C11.out.ex hx)
  have D12 := Lib.hid (D11.out.ex hx)
  have HP : Hid (OwP r s (v + 1) o) := Lib.hid (.inr ⟨o1, by omega, o3, o4⟩)
  have b1 : fAdd s (o - 1) = s + (o - 1) := add_in (by omega) (by omega)
  have b2 : fAdd s o = s + o := add_in (by omega) (by omega)
  have b3 : fAdd 0 (o + 5) = o + 5 := by rw [add_in (by omega) (by omega)]; omega
  have p1 : worthV r (s + (o - 1)) < v + 1 := by
    unfold enoughB at o3
    rw [b1] at o3
    have := of_decide_eq_false o3
    omega
  have p2 : v + 1 ≤ worthV r (s + o) := by
    unfold enoughB at o4
    rw [b2] at o4
    exact of_decide_eq_true o4
  obtain ⟨-, p3, p4⟩ := worth_big (r := r) (s := s + (o - 1)) r1 r2 (by omega) (by omega)
  obtain ⟨-, p5, p6⟩ := worth_big (r := r) (s := s + o) r1 r2 (by omega) (by omega)
  have c1 : fAdd 64 (worthV r (s + (o - 1))) < M + 1 := by rw [add_in (by omega) (by omega)]; omega
  have c2 : M + 1 ≤ fAdd 64 (worthV r (s + o)) := by rw [add_in (by omega) (by omega)]; omega
  have hz : enoughB r (s + o) (v + 1) 0 = true := by
    unfold enoughB
    have e : fAdd (s + o) 0 = s + o := by rw [add_in (by omega) (by omega)]; omega
    rw [e]
    exact decide_eq_true p2
  have B1 := Lib.hid b1
  have B2 := Lib.hid b2
  have B3 := Lib.hid b3
  have CC1 := Lib.hid c1
  have CC2 := Lib.hid c2
  have HZ : Hid (OwP r (s + o) (v + 1) 0) := Lib.hid (.inl ⟨rfl, hz⟩)
  clear he hx C11 D11 b1 b2 b3 c1 c2 hz p1 p2 p3 p4 p5 p6 o3 o4
  go_wp2_with fail
  refine (owed_is D12.out.cr 0 wf0 (by omega) (put_same _ _ _) (by omega) ND.out HP.out).mono ?_
  rintro e w13 ⟨rfl, hx⟩
  have C13 := Lib.hid (C12.out.ex hx)
  have D13 := Lib.hid (D12.out.ex hx)
  clear hx C12 D12
  have wo : o = 1 ∨ 1 < o := by omega
  rcases wo with ho | ho
  -- nothing is to be scanned
  have ho' : o ≤ 1 := by omega
  have hso : s = s + (o - 1) := by omega
  have HSO := Lib.hid hso
  clear hso ho
  go_wp2_with fail
  refine (scan_no (md + 1) 0 (o - 1) _ (by omega)).mono ?_
  rintro e w' ⟨rfl, rfl⟩
  have TT : Hid (∃ n f, Own1 w w13 (md + 1) md r 0 f n ∧ n ≤ 10 ∧ f 0 = (M, s + (o - 1))) := by
    refine Lib.hid ⟨_, _, D13.out, by omega, ?_⟩
    rw [put_same, ← HSO.out]
  clear HSO D13 ho'
  obtain ⟨wt, rfl⟩ : ∃ wt : World, wt = w13 := ⟨_, rfl⟩
  have C14 := C13
  clear C13
  go_wp2_with fail
  rotate_left
  -- some are
  go_wp2_with fail
  refine (oscan D13.out (g := 0) (put_same _ _ _) wf0 (by omega) (by omega) (by omega) B1.out).mono ?_
  rintro e wt ⟨rfl, h, hc⟩
  have TT : Hid (∃ n f, Own1 w wt (md + 1) md r 0 f n ∧ n ≤ 10 ∧ f 0 = (M, s + (o - 1))) := Lib.hid ⟨_, _, h, by omega, put_same _ _ _⟩
  have C14 := Lib.hid (C13.out.other hc (by omega) (by omega) (by omega))
  clear h hc C13 D13 ho
  go_wp2_with fail
  rotate_left
  all_goals
    obtain ⟨nd', fd', t1, t2, t3⟩ := TT.out
    have D14 := Lib.hid t1
    have F14 := Lib.hid t3
    clear t1 t3 TT
    refine (oallocno D14.out (g := 0) F14.out wf0 (by omega) (by omega) A4.out (by omega) CC1.out).mono ?_
    rintro e w15 ⟨rfl, h, hc⟩
    have C15 := Lib.hid (C14.out.other hc (by omega) (by omega) (by omega))
    clear h hc C14 D14
    go_wp2_with fail
    refine (obank C15.out (by omega) (by omega) B3.out).mono ?_
    rintro e w16 ⟨rfl, h, -⟩
    have C16 := Lib.hid h
    clear h C15
    go_wp2_with fail
    refine (steal_some C16.out 0 wf0 (put_same _ _ _) o1 (by omega) (by omega) B2.out (Lib.hid fun x => owed_is (C16.out.cr.ex x.2) 0 wf0 (by omega) (put_same _ _ _) (by omega) ND.out HP.out)).mono ?_
    rintro e w17 ⟨rfl, h⟩
    rw [show o + 5 - o = 5 by omega] at h
    have C17 := Lib.hid h
    clear h C16
    go_wp2_with fail
    refine (told_any _).mono ?_
    rintro e w18 ⟨rfl, hx⟩
    have C18 := Lib.hid (C17.out.ex hx)
    clear hx C17
    go_wp2_with fail
    refine (banked_any C18.out.cr).mono ?_
    rintro e w' ⟨rfl, rfl⟩
    go_wp2_with fail
    refine (owed_is C18.out.cr 0 wf0 (by omega) (put_same _ _ _) (by omega) ND.out HZ.out).mono ?_
    rintro e w19 ⟨rfl, hx⟩
    have C19 := Lib.hid (C18.out.ex hx)
    clear hx C18
    go_wp2_with fail
    refine (oalloc C19.out (g := 0) (put_same _ _ _) wf0 (by omega) (by omega) (by omega) A4.out (.inr ⟨by omega, CC2.out⟩)).mono ?_
    rintro e w20 ⟨rfl, h, -⟩
    have C20 := Lib.hid h
    clear h C19
    go_wp2_with fail
    go_ret
    exact ⟨rfl, C20.out.below⟩

theorem walk_CreditPays (ratio num : Int) (w0 : (Lit.int .i64 ratio).wf = true) (w1 : (Lit.int .i64 num).wf = true) (w : World) :
    Calls Try.prog 5 #[.int .i64 ratio, .int .i64 num] w fun e w' => e = .returned (.bool true) ∧ Below w.heap.size w w' := pays_walk ratio num w

end Go.Proofs.Ytomegcicfpmefaa
