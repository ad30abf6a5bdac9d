/- CodeMays. -/
import Derived.Test.YtmajnjbjoagihaaLawD15
import Derived.Test.YtmajnjbjoagihaaRefE15
namespace Go.Proofs.Ytmajnjbjoagihaa
open Go.RowKit
set_option linter.unusedVariables false
set_option linter.unusedSimpArgs false

theorem str_nil : strOfNums [] = ⟨#[]⟩ := rfl
/-- What the two Encode's say. -/
theorem enc_all {w w' : World} {g : Int} {F : List (List I4)} {e : Ending} (h : EncDone w g F e w') : ∃ a n c, e = .returned (.tuple #[.slice a n c, .int .i64 (if mayI g F = 0 then 0 else 1)]) ∧ Ex w w' ∧ (∀ W, Ex w' W → (convert 25 9 (.slice a n c)).run Try.prog W = .ok (.string (strOfNums (if mayI g F = 0 then encB g F else []))) W) := by
  rcases h with ⟨h0, v, rfl, hrow, hx⟩ | ⟨h0, rfl, hx⟩
  · have h7 := (encB_length (may_zero h0)).1
    obtain ⟨rb, rc, rfl⟩ : ∃ r c, v = .slice (some ⟨r, 0, none⟩) (encB g F).length c := by
      rcases row_shape hrow with ⟨-, h2, -⟩ | ⟨r, c, h1, -⟩
      · omega
      · exact ⟨r, c, h1⟩
    refine ⟨_, _, _, by rw [if_pos h0], hx, fun W hW => ?_⟩
    rw [if_pos h0]
    refine run_convert_bytes_arg (P := Try.prog) W 25 5 Try.underlying25 Try.underlying5 rb 0 (encB g F).length rc (encB g F) rfl (fun i hi => cell_later hW ?_) 9 Try.underlying9
    rw [World.ownsRow.cellAt hrow (0 + i) (by omega), Nat.zero_add]
    simp [bV, hi]
  · refine ⟨_, _, _, by rw [if_neg h0], hx, fun W hW => ?_⟩
    rw [if_neg h0]
    exact run_convert_bytes_nil (P := Try.prog) W 25 5 Try.underlying25 Try.underlying5 0 0 9 Try.underlying9
theorem encs_all {w w' : World} {g : Int} {F : List (List I4)} {e : Ending} (h : EncSDone w g F e w') : e = .returned (.tuple #[.string (strOfNums (if mayI g F = 0 then encB g F else [])), .int .i64 (if mayI g F = 0 then 0 else 1)]) ∧ Ex w w' := by
  rcases h with ⟨h0, rfl, hx⟩ | ⟨h0, rfl, hx⟩
  · exact ⟨by rw [if_pos h0, if_pos h0], hx⟩
  · exact ⟨by rw [if_neg h0, if_neg h0]; rfl, hx⟩

set_option maxRecDepth 20000 in
set_option maxHeartbeats 6400000 in
theorem walk_CodeMays {w : World} {g : Int} {fv : Value} {F : List (List I4)} (h : RdP w fv F) (hF : F.length ≤ maxLen) :
    Calls Try.prog 6 #[.agg #[.int .i64 g, fv]] w fun e w' => e = .returned (.bool true) ∧ Below w.heap.size w w' := by
  obtain ⟨fa, cap, rfl⟩ := h.val
  have HP := Lib.hid h
  have GR := Lib.hid (fun (W : World) (k : RdP W (.slice fa F.length cap) F) => great_any (g := g) k hF)
  have EA := Lib.hid (fun (W : World) (k : RdP W (.slice fa F.length cap) F) => (encode_any (g := g) k).mono (fun e w' h => enc_all h))
  have EB := Lib.hid (fun (W : World) (k : RdP W (.slice fa F.length cap) F) => (rencode_any (g := g) k).mono (fun e w' h => encs_all h))
  have MA := Lib.hid (fun (W : World) (k : RdP W (.slice fa F.length cap) F) => may_any (g := g) k)
  have MB := Lib.hid (fun (W : World) (k : RdP W (.slice fa F.length cap) F) => rmay_any (g := g) k)
  clear h hF
  generalize (if mayI g F = 0 then (0 : Int) else 1) = ev at *
  generalize strOfNums (if mayI g F = 0 then encB g F else []) = S at *
  generalize mayI g F = m at *
  go_enter Try.func6, Try.ntmps6
  go_upto_region 1 with fail
  have e0 := Ex.made w (.cells #[.int .i64 g, .slice fa F.length cap] 24)
  have b0 := Box.fresh w #[.int .i64 g, .slice fa F.length cap] 24
  obtain ⟨W, hW⟩ : ∃ W, W = w.alloc (.cells #[.int .i64 g, .slice fa F.length cap] 24) := ⟨_, rfl⟩
  rw [← hW] at e0 b0 ⊢
  have E0 := Lib.hid e0
  have B0 := Lib.hid b0
  clear hW e0 b0
  have x0 : W.cell? ⟨w.heap.size, 0, none⟩ = some (.int .i64 g) := B0.out.cell 0
  have x1 : W.cell? ⟨w.heap.size, 1, none⟩ = some (.slice fa F.length cap) := B0.out.cell 1
  go_wp2_with fail
  refine (GR.out W (HP.out.ex E0.out)).mono ?_
  rintro e w1 ⟨⟨t, rfl⟩, hx⟩
  have E1 := Lib.hid (E0.out.trans hx)
  have b1 := B0.out.ex hx
  have B1 := Lib.hid b1
  clear x0 x1 hx E0 B0
  cases t
  · have x0 : w1.cell? ⟨w.heap.size, 0, none⟩ = some (.int .i64 g) := b1.cell 0
    have x1 : w1.cell? ⟨w.heap.size, 1, none⟩ = some (.slice fa F.length cap) := b1.cell 1
    clear b1
    go_wp2_with fail
    refine (EA.out w1 (HP.out.ex E1.out)).mono ?_
    rintro e w2 ⟨ba, bn, bc, rfl, hx, hcv⟩
    have E2 := Lib.hid (E1.out.trans hx)
    have b2 := B1.out.ex hx
    have B2 := Lib.hid b2
    have CV := Lib.hid hcv
    clear x0 x1 hx E1 B1 hcv
    have x0 : w2.cell? ⟨w.heap.size, 0, none⟩ = some (.int .i64 g) := b2.cell 0
    have x1 : w2.cell? ⟨w.heap.size, 1, none⟩ = some (.slice fa F.length cap) := b2.cell 1
    clear b2
    go_wp2_with fail
    refine (EB.out w2 (HP.out.ex E2.out)).mono ?_
    rintro e w3 ⟨rfl, hx⟩
    have E3 := Lib.hid (E2.out.trans hx)
    have b3 := B2.out.ex hx
    have CV3 : Hid (∀ W, Ex w3 W → (convert 25 9 (.slice ba bn bc)).run Try.prog W = .ok (.string S) W) := Lib.hid (fun W hW => CV.out W (hx.trans hW))
    clear x0 x1 hx E2 B2 CV
    go_upto_region 5 with fail
    have o0 : ∀ o : Out w3, o.w.cell? ⟨w.heap.size, 0, none⟩ = some (.int .i64 g) := b3.out 0
    have o1 : ∀ o : Out w3, o.w.cell? ⟨w.heap.size, 1, none⟩ = some (.slice fa F.length cap) := b3.out 1
    have o2 : ∀ o : Out w3, (convert 25 9 (.slice ba bn bc)).run Try.prog o.w = .ok (.string S) o.w := fun o => CV3.out o.w o.2
    have TO : Hid (∀ o : Out w3, Calls Try.prog 10 #[] o.w fun e w' => e = .returned (.bool true) ∧ Ex o.w w') := Lib.hid (fun o => told_any o.w)
    have MO : Hid (∀ o : Out w3, Calls Try.prog 16 #[.agg #[.int .i64 g, .slice fa F.length cap]] o.w fun e w' => e = .returned (.int .i64 m) ∧ Ex o.w w') := Lib.hid (fun o => MA.out o.w (HP.out.ex (E3.out.trans o.2)))
    have NO : Hid (∀ o : Out w3, Calls Try.prog 17 #[.agg #[.int .i64 g, .slice fa F.length cap]] o.w fun e w' => e = .returned (.int .i64 m) ∧ Ex o.w w') := Lib.hid (fun o => MB.out o.w (HP.out.ex (E3.out.trans o.2)))
    clear b3
    refine wp_region_ex (by kernel_rfl) (by kernel_rfl) ?_
    repeat (go_big_quiet_step (first | (go_at_call 10; exact quiet_ex (TO.out _)) | (go_at_call 16; exact quiet_ex (MO.out _)) | (go_at_call 17; exact quiet_ex (NO.out _))))
    refine wpQuiet_nil ?_
    rintro w5 ⟨⟨w6, hx5⟩, rfl⟩
    have E5 := Lib.hid (E3.out.trans hx5)
    clear o0 o1 o2 hx5
    go_wp2_with fail
    go_ret
    exact ⟨by simp, E5.out⟩
  · clear b1
    go_wp2_with fail
    refine (told_any w1).mono ?_
    rintro e w2 ⟨rfl, hx⟩
    have E2 := Lib.hid (E1.out.trans hx)
    clear hx
    go_wp2_with fail
    go_ret
    exact ⟨rfl, E2.out⟩

end Go.Proofs.Ytmajnjbjoagihaa
