/- Package credit: Scan, Bank, Banked, Owed where nothing is owed, Steal: contracts. -/
import Derived.Test.YtomegcicfpmefaaCred22A
namespace Go.Proofs.Ytomegcicfpmefaa
open Go.RowKit Go.Maps
set_option linter.unusedVariables false

set_option maxHeartbeats 1600000 in
theorem scan_yes {w : World} {b mb n : Nat} {r bank : Int} {f : Int → Int × Int} (h : Cr w b mb r bank f n) (g x : Int) (hg : (Lit.int .i64 g).wf = true) (hx : 0 < x) (hx2 : I64 x) (hn : n ≤ 1000000) :
    Calls Try.prog 7 #[.pointer (some ⟨b, 0, none⟩), .int .i64 g, .int .i64 x] w fun e w' => e = .returned (.tuple #[]) ∧ CrNxt w b mb r bank (putF f g ((f g).1, fAdd (f g).2 x)) (n + 1) w' := by
  have c1 : w.cell? ⟨b, 1, none⟩ = some (.map (some mb)) := h.box.cell 1
  have hb := h.box.lt
  have hl := h.look g hg
  have hbd := h.bd g
  have H := Lib.hid h
  obtain ⟨p, hp⟩ : ∃ p, f g = p := ⟨_, rfl⟩
  rw [hp] at hl hbd ⊢
  obtain ⟨p1, p2⟩ := p
  obtain ⟨sm, hsm⟩ : ∃ sm, fAdd p2 x = sm := ⟨_, rfl⟩
  have is : I64 sm := by rw [← hsm]; exact i_add _ _
  simp only [hsm] at hl hbd ⊢
  have KA := Lib.hid hsm
  obtain ⟨i1, i2⟩ := hbd
  clear h hp hsm
  have big : ∀ (w5 : World), Ex w w5 → ∃ w6,
      (Instr.mapUpdate 42 (.map (some mb)) (.int .i64 g) (.agg #[.int .i64 p1, .int .i64 sm])).run Try.prog w5.drew = .ok () w6 ∧ CrNxt w b mb r bank (putF f g (p1, sm)) (n + 1) w6 := by
    intro w5 hx1
    have hx2 : Ex w w5.drew := hx1.trans (Ex.drawn w5 1)
    obtain ⟨w6, h1, h2, h3⟩ := (H.out.ex hx2).upd g hg p1 sm i1 is hn
    exact ⟨w6, h1, CrNxt.mk hx2 h2 (h3.weak (fun i _ hi => .inl (.inr hi)))⟩
  have HB := Lib.hid big
  clear big
  go_enter Try.func7, Try.ntmps7
  go_wp2_with fail
  refine (rw_add KA i2 hx2).mono ?_
  rintro e w' ⟨rfl, rfl⟩
  go_upto_region 3 with fail
  have X1 := Ex.made w (.cells #[.int .i64 p1, .int .i64 sm] 46)
  have B1 := Box.fresh w #[.int .i64 p1, .int .i64 sm] 46
  obtain ⟨w5, hw5⟩ : ∃ w5, w5 = w.alloc (.cells #[.int .i64 p1, .int .i64 sm] 46) := ⟨_, rfl⟩
  rw [← hw5] at X1 B1 ⊢
  obtain ⟨s0, s1, -, -⟩ := two_cells B1
  have d1 : w5.cell? ⟨b, 1, none⟩ = some (.map (some mb)) := (X1.cell (p := ⟨b, 1, none⟩) hb).trans c1
  obtain ⟨w6, hrun, hnx⟩ := HB.out _ X1
  have HN := Lib.hid hnx
  clear hnx X1 B1 hw5 HB c1
  go_region
  go_wp2_with fail
  go_end0
  exact ⟨rfl, HN.out⟩

theorem scan_no (b : Nat) (g x : Int) (w : World) (hx : x ≤ 0) :
    Calls Try.prog 7 #[.pointer (some ⟨b, 0, none⟩), .int .i64 g, .int .i64 x] w fun e w' => e = .returned (.tuple #[]) ∧ w = w' := by
  go_enter Try.func7, Try.ntmps7
  go_wp2_with fail
  go_end0
  exact ⟨rfl, rfl⟩

theorem Cr.banked {w : World} {b mb n : Nat} {r bank : Int} {f : Int → Int × Int} (h : Cr w b mb r bank f n) (v : Int) (hv : I64 v) : Cr (w.setCell ⟨b, 2, none⟩ (.int .i64 v)) b mb r v f n := by
  obtain ⟨D, hD, h3⟩ := h.map
  exact ⟨h.box.put 2 (.int .i64 v), ⟨D, map_chg hD (Chg.cell (F := fun k => k = b) w ⟨b, 2, none⟩ _ rfl) h.ne.symm, h3⟩, h.bd, h.rb, hv⟩

set_option maxHeartbeats 800000 in
theorem bank_yes {w : World} {b mb n : Nat} {r bank : Int} {f : Int → Int × Int} (h : Cr w b mb r bank f n) (x : Int) (hx : 0 < x) (hx2 : I64 x) :
    Calls Try.prog 16 #[.pointer (some ⟨b, 0, none⟩), .int .i64 x] w fun e w' => e = .returned (.tuple #[]) ∧ Cr w' b mb r (fAdd bank x) f n ∧ Chg (fun k => k = b ∨ k = mb) w w' := by
  have c2 : w.cell? ⟨b, 2, none⟩ = some (.int .i64 bank) := h.box.cell 2
  have f2 := h.box.soft 2
  have H := Lib.hid h
  have hbb := h.bb
  obtain ⟨sm, hsm⟩ : ∃ sm, fAdd bank x = sm := ⟨_, rfl⟩
  have is : I64 sm := by rw [← hsm]; exact i_add _ _
  have KA := Lib.hid hsm
  rw [hsm]
  clear h hsm
  go_enter Try.func16, Try.ntmps16
  go_wp2_with fail
  refine (rw_add KA hbb hx2).mono ?_
  rintro e w' ⟨rfl, rfl⟩
  go_wp2_with fail
  go_end0
  exact ⟨rfl, H.out.banked sm is, Chg.cell _ _ _ (.inl rfl)⟩

theorem banked_any {w : World} {b mb n : Nat} {r bank : Int} {f : Int → Int × Int} (h : Cr w b mb r bank f n) :
    Calls Try.prog 17 #[.pointer (some ⟨b, 0, none⟩)] w fun e w' => e = .returned (.int .i64 bank) ∧ w = w' := by
  have c2 : w.cell? ⟨b, 2, none⟩ = some (.int .i64 bank) := h.box.cell 2
  clear h
  go_enter Try.func17, Try.ntmps17
  go_wp2_with fail
  go_ret
  exact ⟨rfl, rfl⟩

/-- Without a ratio nothing is owed. -/
theorem owed_none {w : World} {b mb n : Nat} {r bank : Int} {f : Int → Int × Int} (h : Cr w b mb r bank f n) (g : Int) (hr : r ≤ 0) :
    Calls Try.prog 14 #[.pointer (some ⟨b, 0, none⟩), .int .i64 g] w fun e w' => e = .returned (.int .i64 0) ∧ Ex w w' := by
  have c0 : w.cell? ⟨b, 0, none⟩ = some (.int .i64 r) := h.box.cell 0
  have hb := h.box.lt
  clear h
  go_enter Try.func14, Try.ntmps14
  go_wp2_with fail
  go_ret
  exact ⟨rfl, Ex.made _ _⟩

theorem rw_sub {a b c : Int} {w : World} (h : Hid (fSub a b = c)) (ha : I64 a) (hb : I64 b) :
    Calls Try.prog 24 #[.int .i64 a, .int .i64 b] w fun e w' => e = .returned (.int .i64 c) ∧ w = w' := by
  have k := fSub_any a b w ha.1 ha.2 hb.1 hb.2
  rw [h.out] at k
  exact k

set_option maxHeartbeats 1600000 in
/-- Who allocated 64 or fewer owes nothing. -/
theorem owed_few {w : World} {b mb n : Nat} {r bank : Int} {f : Int → Int × Int} (h : Cr w b mb r bank f n) (g : Int) (hg : (Lit.int .i64 g).wf = true) (hr : 0 < r) (hf : (f g).1 ≤ 64) :
    Calls Try.prog 14 #[.pointer (some ⟨b, 0, none⟩), .int .i64 g] w fun e w' => e = .returned (.int .i64 0) ∧ Ex w w' := by
  have c0 : w.cell? ⟨b, 0, none⟩ = some (.int .i64 r) := h.box.cell 0
  have c1 : w.cell? ⟨b, 1, none⟩ = some (.map (some mb)) := h.box.cell 1
  have hb := h.box.lt
  have hl := (h.ex (Ex.made w (.cells #[.pointer (some ⟨b, 0, none⟩)] 23))).look g hg
  have hbd := h.bd g
  obtain ⟨p, hp⟩ : ∃ p, f g = p := ⟨_, rfl⟩
  rw [hp] at hl hbd hf
  obtain ⟨p1, p2⟩ := p
  obtain ⟨s1, hs1⟩ : ∃ s1, fSub p1 64 = s1 := ⟨_, rfl⟩
  obtain ⟨s2, hs2⟩ : ∃ s2, fAdd s1 1 = s2 := ⟨_, rfl⟩
  have i1 : I64 s1 := by rw [← hs1]; exact i_sub _ _
  have K1 := Lib.hid hs1
  have K2 := Lib.hid hs2
  obtain ⟨j1, j2⟩ := hbd
  replace hf : p1 ≤ 64 := hf
  clear h hp hs1 hs2
  go_enter Try.func14, Try.ntmps14
  go_wp2_with fail
  refine (rw_sub K1 j1 (by unfold I64; omega)).mono ?_
  rintro e w' ⟨rfl, rfl⟩
  go_wp2_with fail
  refine (rw_add K2 i1 (by unfold I64; omega)).mono ?_
  rintro e w' ⟨rfl, rfl⟩
  go_wp2_with fail
  go_ret
  have e1 := Ex.made w (.cells #[.pointer (some ⟨b, 0, none⟩)] 23)
  have e2 := Ex.made (w.alloc (.cells #[.pointer (some ⟨b, 0, none⟩)] 23)) (.cells #[.int .i64 p1, .int .i64 p2] 46)
  have e3 := Ex.made ((w.alloc (.cells #[.pointer (some ⟨b, 0, none⟩)] 23)).alloc (.cells #[.int .i64 p1, .int .i64 p2] 46)) (.cells #[.int .i64 s2] 2)
  exact ⟨rfl, (e1.trans e2).trans e3⟩

end Go.Proofs.Ytomegcicfpmefaa
