/- CreditApart. -/
import Derived.Test.YtomegcicfpmefaaTold22
namespace Go.Proofs.Ytomegcicfpmefaa
open Go.RowKit Go.Maps
set_option linter.unusedVariables false

set_option maxRecDepth 10000 in
set_option maxHeartbeats 6400000 in
theorem apart_walk (a b ratio : Int) (w : World) (hr1 : -9223372036854775808 ≤ ratio) (hr2 : ratio ≤ 9223372036854775807) :
    Calls Try.prog 4 #[.int .i64 a, .int .i64 b, .int .i64 ratio] w fun e w' => e = .returned (.bool true) ∧ Below w.heap.size w w' := by
  obtain ⟨x, hx⟩ : ∃ r, (IntKind.u64.wrap a).tmod 65 = r := ⟨_, rfl⟩
  obtain ⟨x1, x2⟩ := umod_bd a 65 (by omega)
  rw [hx] at x1 x2
  obtain ⟨y, hy⟩ : ∃ r, (IntKind.u64.wrap b).tmod 65 = r := ⟨_, rfl⟩
  obtain ⟨y1, y2⟩ := umod_bd b 65 (by omega)
  rw [hy] at y1 y2
  obtain ⟨q, hq⟩ : ∃ q, wrap64 (-ratio) = q := ⟨_, rfl⟩
  obtain ⟨ρ, hρ⟩ : ∃ ρ, (if (0 : Int) < (if q < ratio then q else ratio) then (0 : Int) else (if q < ratio then q else ratio)) = ρ := ⟨_, rfl⟩
  have hm : ∀ ts t (w : World), (Builtin.min_ ts t #[.int .i64 ratio, .int .i64 q, .int .i64 0]).run Try.prog w = .ok (.int .i64 ρ) w := fun ts t w => by rw [run_min_int3, hρ]
  have ρ0 : ρ ≤ 0 := by rw [← hρ]; split <;> split <;> omega
  have ρ1 : -9223372036854775808 ≤ ρ := by
    have : -9223372036854775808 ≤ q := by rw [← hq]; unfold wrap64; omega
    rw [← hρ]; split <;> split <;> omega
  clear hρ hr1 hr2
  go_enter Try.func4, Try.ntmps4
  go_wp2_with fail
  refine (onew 1048576 (by unfold I64; omega) (Ex.refl w)).mono ?_
  rintro e w1 ⟨rfl, h, -⟩
  have C1 := Lib.hid h
  clear h
  have hsz := C1.out.cr.box.lt
  go_wp2_with fail
  refine (onew ρ ⟨ρ1, by omega⟩ C1.out.below).mono ?_
  rintro e w2 ⟨rfl, h, hx12⟩
  have D2 := Lib.hid h
  have C2 := Lib.hid (C1.out.ex hx12)
  obtain ⟨mc, hmc⟩ : ∃ mc, w.heap.size = mc := ⟨_, rfl⟩
  obtain ⟨md, hmd⟩ : ∃ md, w1.heap.size = md := ⟨_, rfl⟩
  rw [hmd] at hsz D2
  rw [hmd]
  rw [hmc] at hsz C2
  have HMC := Lib.hid hmc
  have bmc : w.heap.size ≤ mc := by omega
  have bmd : w.heap.size ≤ md := by omega
  clear h hx12 C1 hmd
  rw [hmc]
  clear hmc
  have a1 : fAdd 0 x = x := by rw [add_in (by omega) (by omega)]; omega
  have a2 : fAdd 0 y = y := by rw [add_in (by omega) (by omega)]; omega
  have a3 : fAdd x (1064 - x) = 1064 := by rw [add_in (by omega) (by omega)]; omega
  have a4 : fAdd 1064 1 = 1065 := by decide
  have a5 : fAdd y (65 - y) = 65 := by rw [add_in (by omega) (by omega)]; omega
  have a6 : fAdd y (64 - y) = 64 := by rw [add_in (by omega) (by omega)]; omega
  have v1 : fAdd 64 (worthV 1048576 0) = 64 := by decide
  have v2 : fAdd 64 (worthV 1048576 1000) = 1064 := by decide
  have A1 := Lib.hid a1
  have A2 := Lib.hid a2
  have A3 := Lib.hid a3
  have A4 := Lib.hid a4
  have A5 := Lib.hid a5
  have A6 := Lib.hid a6
  have V1 := Lib.hid v1
  have V2 := Lib.hid v2
  clear a1 a2 a3 a4 a5 a6 v1 v2
  go_wp2_with fail
  refine (oalloc C2.out (g := 1) rfl (wf_small (by omega) (by omega)) x1 (by omega) (by omega) A1.out (.inr ⟨by omega, by rw [V1.out]; omega⟩)).mono ?_
  rintro e w3 ⟨rfl, h, hc⟩
  have C3 := Lib.hid h
  have D3 := Lib.hid (D2.out.other hc (by omega) (by omega) (by omega))
  clear h hc C2 D2
  go_wp2_with fail
  refine (oalloc C3.out (g := 2) (a := 0) (s := 0) (by rw [put_other _ _ (by omega)]) (wf_small (by omega) (by omega)) y1 (by omega) (by omega) A2.out (.inr ⟨by omega, by rw [V1.out]; omega⟩)).mono ?_
  rintro e w4 ⟨rfl, h, hc⟩
  have C4 := Lib.hid h
  have D4 := Lib.hid (D3.out.other hc (by omega) (by omega) (by omega))
  clear h hc C3 D3
  go_wp2_with fail
  refine (alloc_neg (mc + 1) 1 (-1) _ (by omega)).mono ?_
  rintro e w' ⟨rfl, rfl⟩
  go_wp2_with fail
  refine (oscan C4.out (g := 1) (a := x) (s := 0) (c := 1000) (by rw [put_other _ _ (by omega), put_same]) (wf_small (by omega) (by omega)) (by omega) (by omega) (by omega) (by decide)).mono ?_
  rintro e w5 ⟨rfl, h, hc⟩
  have C5 := Lib.hid h
  have D5 := Lib.hid (D4.out.other hc (by omega) (by omega) (by omega))
  clear h hc C4 D4
  go_wp2_with fail
  refine (scan_no (mc + 1) 2 (-5) _ (by omega)).mono ?_
  rintro e w' ⟨rfl, rfl⟩
  obtain ⟨f, hf⟩ : ∃ f, putF (putF (putF (fun _ => (0, 0)) 1 (x, 0)) 2 (y, 0)) 1 (x, 1000) = f := ⟨_, rfl⟩
  have F1 : Hid (f 1 = (x, 1000)) := by rw [← hf, put_same]; exact Lib.hid rfl
  have F2 : Hid (f 2 = (y, 0)) := by rw [← hf, put_other _ _ (by omega), put_same]; exact Lib.hid rfl
  have F3 : Hid (f 3 = (0, 0)) := by rw [← hf, put_other _ _ (by omega), put_other _ _ (by omega), put_other _ _ (by omega)]; exact Lib.hid rfl
  rw [hf] at C5
  clear hf
  go_wp2_with fail
  refine (osums C5.out (g := 1) F1.out (wf_small (by omega) (by omega))).mono ?_
  rintro e w6 ⟨rfl, h, hc⟩
  have C6 := Lib.hid h
  have D6 := Lib.hid (D5.out.other hc (by omega) (by omega) (by omega))
  clear h hc C5 D5
  go_wp2_with fail
  refine (osums C6.out (g := 2) F2.out (wf_small (by omega) (by omega))).mono ?_
  rintro e w7 ⟨rfl, h, hc⟩
  have C7 := Lib.hid h
  have D7 := Lib.hid (D6.out.other hc (by omega) (by omega) (by omega))
  clear h hc C6 D6
  go_wp2_with fail
  refine (osums C7.out (g := 3) F3.out (wf_small (by omega) (by omega))).mono ?_
  rintro e w8 ⟨rfl, h, hc⟩
  have C8 := Lib.hid h
  have D8 := Lib.hid (D7.out.other hc (by omega) (by omega) (by omega))
  clear h hc C7 D7
  go_wp2_with fail
  go_loopw [17] (fun iv wr => ∃ (i n : Nat) (fd : Int → Int × Int), i ≤ 5 ∧ iv = .int .i64 i ∧ n ≤ i ∧ Own1 w wr (mc + 1) mc 1048576 0 f 3 ∧ Own1 w wr (md + 1) md ρ 0 fd n) (fun iv _ => 5 - (intOf iv).toNat)
  case atStart => exact ⟨0, 0, _, by omega, rfl, by omega, C8.out, D8.out⟩
  case round =>
    obtain ⟨i, n, fd, i5, rfl, hn, hC, hD⟩ := hrel
    have C := Lib.hid hC
    have D := Lib.hid hD
    clear hC hD C8 D8
    by_cases hi : i < 5
    · obtain ⟨p, hp⟩ : ∃ p, fd 0 = p := ⟨_, rfl⟩
      obtain ⟨p1, p2⟩ := p
      have HP := Lib.hid hp
      clear hp
      go_wp2_with fail
      refine (oalloc D.out (g := 0) HP.out wf0 (by omega) (by omega) (by omega) rfl (.inl ρ0)).mono ?_
      rintro e wa ⟨rfl, h, hc⟩
      have Da := Lib.hid h
      have Ca := Lib.hid (C.out.other hc (by omega) (by omega) (by omega))
      clear h hc C D
      go_wp2_with fail
      refine (oowed Da.out 0 ρ0).mono ?_
      rintro e wb ⟨rfl, h, hc⟩
      have Db := Lib.hid h
      have Cb := Lib.hid (Ca.out.other hc (by omega) (by omega) (by omega))
      clear h hc Ca Da
      go_wp2_with fail
      refine (osteal Db.out 0 ρ0 (by omega)).mono ?_
      rintro e wc ⟨rfl, h, hc⟩
      have Dc := Lib.hid h
      have Cc := Lib.hid (Cb.out.other hc (by omega) (by omega) (by omega))
      clear h hc Cb Db
      go_wp2_with fail
      go_roundw
      case rel => exact ⟨i + 1, n + 1, _, by omega, by go_num, by omega, Cc.out, Dc.out⟩
      case measure => simp [intOf]; omega
    · obtain rfl : i = 5 := by omega
      go_wp2_with fail
      refine (told_any _).mono ?_
      rintro e wa ⟨rfl, hx⟩
      have Ca := Lib.hid (C.out.ex hx)
      clear hx C D
      go_wp2_with fail
      refine (oalloc Ca.out (g := 1) F1.out (wf_small (by omega) (by omega)) (by omega) (by omega) (by omega) A3.out (.inr ⟨by omega, by rw [V2.out]; omega⟩)).mono ?_
      rintro e wb ⟨rfl, h, -⟩
      have Cb := Lib.hid h
      clear h Ca
      go_wp2_with fail
      refine (oallocno Cb.out (g := 1) (put_same _ _ _) (wf_small (by omega) (by omega)) (by omega) (by omega) A4.out (by omega) (by rw [V2.out]; omega)).mono ?_
      rintro e wc ⟨rfl, h, -⟩
      have Cc := Lib.hid h
      clear h Cb
      go_wp2_with fail
      refine (oallocno Cc.out (g := 2) (a := y) (s := 0) (by rw [put_other _ _ (by omega), F2.out]) (wf_small (by omega) (by omega)) (by omega) (by omega) A5.out (by omega) (by rw [V1.out]; omega)).mono ?_
      rintro e wd ⟨rfl, h, -⟩
      have Cd := Lib.hid h
      clear h Cc
      go_wp2_with fail
      refine (oalloc Cd.out (g := 2) (a := y) (s := 0) (by rw [put_other _ _ (by omega), F2.out]) (wf_small (by omega) (by omega)) (by omega) (by omega) (by omega) A6.out (.inr ⟨by omega, by rw [V1.out]; omega⟩)).mono ?_
      rintro e we ⟨rfl, h, -⟩
      have Ce := Lib.hid h
      clear h Cd
      go_wp2_with fail
      go_ret
      exact ⟨rfl, Ce.out.below⟩

theorem walk_CreditApart (a b ratio : Int) (w0 : (Lit.int .i64 a).wf = true) (w1 : (Lit.int .i64 b).wf = true) (w2 : (Lit.int .i64 ratio).wf = true) (w : World) :
    Calls Try.prog 4 #[.int .i64 a, .int .i64 b, .int .i64 ratio] w fun e w' => e = .returned (.bool true) ∧ Below w.heap.size w w' := by
  have h := wf64 w2
  exact apart_walk a b ratio w h.1 h.2

end Go.Proofs.Ytomegcicfpmefaa
