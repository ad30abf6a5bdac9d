/- Package credit: what turns the sums: contracts. -/
import Derived.Test.YtomegcicfpmefaaCred22W
namespace Go.Proofs.Ytomegcicfpmefaa
open Go.RowKit Go.Maps
set_option linter.unusedVariables false

theorem CrNxt.mk {w w1 w6 : World} {b mb n : Nat} {r bank : Int} {f' : Int → Int × Int} (hx : Ex w w1) (h : Cr w6 b mb r bank f' n) (hc : Chg (fun k => (k = b ∨ k = mb) ∨ w.heap.size ≤ k) w1 w6) : CrNxt w b mb r bank f' n w6 :=
  ⟨h, (hx.chg (fun k => k = b ∨ k = mb)).trans hc (fun i hi h => h.elim id (fun h => by omega))⟩

set_option maxHeartbeats 3200000 in
theorem alloc_yes {w : World} {b mb n : Nat} {r bank : Int} {f : Int → Int × Int} (h : Cr w b mb r bank f n) (g x : Int) (hg : (Lit.int .i64 g).wf = true) (hx : 0 ≤ x) (hx2 : I64 x) (hn : n ≤ 1000000)
    (hyes : r ≤ 0 ∨ (0 < r ∧ ¬ fAdd 64 (worthV r (f g).2) < fAdd (f g).1 x)) :
    Calls Try.prog 9 #[.pointer (some ⟨b, 0, none⟩), .int .i64 g, .int .i64 x] w fun e w' => e = .returned (.bool true) ∧ CrNxt w b mb r bank (putF f g (fAdd (f g).1 x, (f g).2)) (n + 1) w' := by
  have c0 : w.cell? ⟨b, 0, none⟩ = some (.int .i64 r) := h.box.cell 0
  have c1 : w.cell? ⟨b, 1, none⟩ = some (.map (some mb)) := h.box.cell 1
  have hb := h.box.lt
  have hl := h.look g hg
  have hbd := h.bd g
  have H := Lib.hid h
  have hmb : mb < w.heap.size := by obtain ⟨D, hD, -⟩ := h.map; exact map_lt hD
  obtain ⟨p, hp⟩ : ∃ p, f g = p := ⟨_, rfl⟩
  rw [hp] at hl hbd hyes ⊢
  obtain ⟨p1, p2⟩ := p
  obtain ⟨sm, hsm⟩ : ∃ sm, fAdd p1 x = sm := ⟨_, rfl⟩
  obtain ⟨wv, hwv⟩ : ∃ wv, worthV r p2 = wv := ⟨_, rfl⟩
  obtain ⟨lm, hlm⟩ : ∃ lm, fAdd 64 wv = lm := ⟨_, rfl⟩
  have iw : I64 wv := by rw [← hwv]; exact i_worth _ _
  have is : I64 sm := by rw [← hsm]; exact i_add _ _
  simp only [hsm, hwv, hlm] at hyes ⊢
  have KA := Lib.hid hsm
  have KL := Lib.hid hlm
  have KW : Hid (∀ w' : World, Ex w w' → Calls Try.prog 19 #[.pointer (some ⟨b, 0, none⟩), .int .i64 p2] w' fun e w'' => e = .returned (.int .i64 wv) ∧ Ex w' w'') := by
    apply Lib.hid
    intro w' hx
    have := worth_any (h.ex hx) p2 hbd.2
    rw [hwv] at this
    exact this
  obtain ⟨i1, i2⟩ := hbd
  clear h hp hsm hwv hlm
  have big : ∀ (w5 : World), Ex w w5 → ∃ w6,
      (Instr.mapUpdate 42 (.map (some mb)) (.int .i64 g) (.agg #[.int .i64 sm, .int .i64 p2])).run Try.prog w5.drew = .ok () w6 ∧ CrNxt w b mb r bank (putF f g (sm, p2)) (n + 1) w6 := by
    intro w5 hx1
    have hx2 : Ex w w5.drew := hx1.trans (Ex.drawn w5 1)
    obtain ⟨w6, h1, h2, h3⟩ := (H.out.ex hx2).upd g hg sm p2 is i2 hn
    exact ⟨w6, h1, CrNxt.mk hx2 h2 (h3.weak (fun i _ hi => .inl (.inr hi)))⟩
  have HB := Lib.hid big
  clear big
  rcases hyes with hr | ⟨hr, hle⟩
  · go_enter Try.func9, Try.ntmps9
    go_wp2_with fail
    refine (rw_add KA i1 hx2).mono ?_
    rintro e w' ⟨rfl, rfl⟩
    go_upto_region 8 with fail
    have X1 := Ex.made w (.cells #[.int .i64 sm, .int .i64 p2] 46)
    have B1 := Box.fresh w #[.int .i64 sm, .int .i64 p2] 46
    obtain ⟨w5, hw5⟩ : ∃ w5, w5 = w.alloc (.cells #[.int .i64 sm, .int .i64 p2] 46) := ⟨_, rfl⟩
    rw [← hw5] at X1 B1 ⊢
    obtain ⟨s0, s1, -, -⟩ := two_cells B1
    have d1 : w5.cell? ⟨b, 1, none⟩ = some (.map (some mb)) := (X1.cell (p := ⟨b, 1, none⟩) hb).trans c1
    obtain ⟨w6, hrun, hnx⟩ := HB.out _ X1
    have HN := Lib.hid hnx
    clear hnx X1 B1 hw5 HB c0 c1
    go_region
    go_wp2_with fail
    go_ret
    exact ⟨rfl, HN.out⟩
  · go_enter Try.func9, Try.ntmps9
    go_wp2_with fail
    refine (rw_add KA i1 hx2).mono ?_
    rintro e w' ⟨rfl, rfl⟩
    go_wp2_with fail
    refine (KW.out _ (Ex.made _ _)).mono ?_
    rintro e w1 ⟨rfl, hx⟩
    have X0 := (Ex.made w (.cells #[.int .i64 p1, .int .i64 p2] 46)).trans hx
    have B0 := (Box.fresh w #[.int .i64 p1, .int .i64 p2] 46).ex hx
    have d0 : w1.cell? ⟨w.heap.size, 0, none⟩ = some (.int .i64 p1) := B0.cell 0
    have f0 := B0.soft 0
    have X0H := Lib.hid X0
    have B0H := Lib.hid B0
    clear hx X0 B0
    go_wp2_with fail
    refine (rw_add KL (by unfold I64; omega) iw).mono ?_
    rintro e w' ⟨rfl, rfl⟩
    go_upto_region 8 with fail
    have X1 : Ex w (w1.setCell ⟨w.heap.size, 0, none⟩ (.int .i64 sm)) := X0H.out.setCell (p := ⟨w.heap.size, 0, none⟩) (Nat.le_refl _) _
    have B1 : Box (w1.setCell ⟨w.heap.size, 0, none⟩ (.int .i64 sm)) w.heap.size #[.int .i64 sm, .int .i64 p2] 46 := B0H.out.put 0 (.int .i64 sm)
    clear X0H B0H d0 f0
    obtain ⟨w5, hw5⟩ : ∃ w5, w5 = w1.setCell ⟨w.heap.size, 0, none⟩ (.int .i64 sm) := ⟨_, rfl⟩
    rw [← hw5] at X1 B1 ⊢
    obtain ⟨s0, s1, -, -⟩ := two_cells B1
    have d1 : w5.cell? ⟨b, 1, none⟩ = some (.map (some mb)) := (X1.cell (p := ⟨b, 1, none⟩) hb).trans c1
    obtain ⟨w6, hrun, hnx⟩ := HB.out _ X1
    have HN := Lib.hid hnx
    clear hnx X1 B1 hw5 HB c0 c1
    go_region
    go_wp2_with fail
    go_ret
    exact ⟨rfl, HN.out⟩

end Go.Proofs.Ytomegcicfpmefaa
