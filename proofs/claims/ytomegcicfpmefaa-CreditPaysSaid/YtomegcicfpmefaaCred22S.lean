/- Package credit: Steal: contracts. -/
import Derived.Test.YtomegcicfpmefaaCred22B
namespace Go.Proofs.Ytomegcicfpmefaa
open Go.RowKit Go.Maps
set_option linter.unusedVariables false

set_option maxHeartbeats 1600000 in
/-- Nothing is stolen where nothing is owed. -/
theorem steal_none {w : World} {b mb n : Nat} {r bank : Int} {f : Int → Int × Int} (h : Cr w b mb r bank f n) (g : Int) (hb0 : 0 ≤ bank)
    (KO : Hid (∀ x : Out w, Calls Try.prog 14 #[.pointer (some ⟨b, 0, none⟩), .int .i64 g] x.w fun e w' => e = .returned (.int .i64 0) ∧ Ex x.w w')) :
    Calls Try.prog 15 #[.pointer (some ⟨b, 0, none⟩), .int .i64 g] w fun e w' => e = .returned (.int .i64 0) ∧ Cr w' b mb r bank f n ∧ Chg (fun k => k = b ∨ k = mb) w w' := by
  have xc : ∀ x : Out w, x.w.cell? ⟨b, 2, none⟩ = some (.int .i64 bank) := h.box.out 2
  have H := Lib.hid h
  have hbb := h.bb
  obtain ⟨b1, b2⟩ := hbb
  have hm : min 0 bank = 0 := by omega
  clear h
  go_enter Try.func15, Try.ntmps15
  go_wp2_with fail
  refine wp_region_ex (by kernel_rfl) (by kernel_rfl) ?_
  try simp only [List.append]
  repeat (go_big_quiet_step ((go_at_call 14; exact quiet_ex (KO.out _))))
  refine wpQuiet_nil ?_
  rintro w4 ⟨⟨wz, hw⟩, rfl⟩
  have c2 : w4.cell? ⟨b, 2, none⟩ = some (.int .i64 bank) := xc ⟨w4, hw⟩
  have f2 := (H.out.box.ex hw).soft 2
  have X := Lib.hid hw
  clear hw xc
  go_wp2_with fail
  refine (scan_no b g 0 _ (by omega)).mono ?_
  rintro e w' ⟨rfl, rfl⟩
  go_wp2_with fail
  go_ret
  exact ⟨rfl, (H.out.ex X.out).banked bank ⟨b1, b2⟩, (X.out.chg _).trans (Chg.cell (F := fun k => k = b ∨ k = mb) _ _ _ (.inl rfl)) (fun i _ hi => hi)⟩

end Go.Proofs.Ytomegcicfpmefaa
