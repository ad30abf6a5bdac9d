/- Package timer: heap.Remove, Del. -/
import Derived.Test.YtofdlbnlfeocoaaRem13
namespace Go.Proofs.Ytofdlbnlfeocoaa
open Go.RowKit
set_option linter.unusedVariables false

theorem fb_ex {w wr w2 : World} (h : Ex w wr) (hz : w.heap.size ≤ wr.heap.size) (c : Chg (FB (w.heap.size + 1) w.heap.size) wr w2) : Ex w w2 :=
  Below.trans h (c.below hz (fun i hi => by rcases hi with rfl | hi <;> omega))

theorem row_val {w : World} {base n : Nat} {e : TypeId} {v : Value} {xs : List Value} {size : Nat} (h : w.ownsRow base e size v n xs) : ∃ a cap, v = .slice a n cap := by
  rcases row_shape h with ⟨h1, h2, -⟩ | ⟨g, cap, h1, -⟩
  · exact ⟨none, 0, by rw [h1, h2]⟩
  · exact ⟨_, cap, h1⟩

def SomeV (P : World → Prop) (e : Ending) (w' : World) : Prop := ∃ x, e = .returned x ∧ P w'

theorem hrem_pop {w w2 : World} {k : Int} {base b g cap n : Nat} {m : List T3} (h : Sv w base b k (.slice (some ⟨g, 0, none⟩) (n + 1) cap) m) (hl : m.length = n + 1) (hg : g < w.heap.size) (hn : n < 900) :
    ∃ p : T3, Calls Try.prog 72 #[.pointer (some ⟨b, 0, none⟩)] w fun e w' => e = .returned (.iface 57 (.agg #[.int .i64 p.1, .int .i64 p.2.1, .int .i64 p.2.2])) ∧
      Sv w' base b k (.slice (some ⟨g, 0, none⟩) n cap) (m.take n) ∧ g < w'.heap.size ∧ Chg (fun i => i = b ∨ i = g) w w' := by
  have e := hlast m n hl
  have h2 := h
  rw [e] at h2
  exact ⟨m.getD n zz, mpop_any n (m.getD n zz) h2 (by rw [List.length_take]; omega) hg (by omega)⟩

set_option maxRecDepth 20000 in
set_option maxHeartbeats 3200000 in
theorem hrem_any {w : World} {k : Int} {base b g cap : Nat} {l : List T3} (n i : Nat) (h : Sv w base b k (.slice (some ⟨g, 0, none⟩) (n + 1) cap) l) (hl : l.length = n + 1) (hg : g < w.heap.size) (hn : n < 900) (hi : i ≤ n) :
    Calls Try.prog 23 #[pS b, .int .i64 i] w (SomeV fun w' => Sv w' base b k (.slice (some ⟨g, 0, none⟩) n cap) (remL l n i) ∧ g < w'.heap.size ∧ Chg (fun j => j = b ∨ j = g) w w') := by
  unfold pS
  have H := Lib.hid h
  have HL := Lib.hid hl
  have HG := Lib.hid hg
  have ml := method_len h.cell
  have ms := method_swap h.cell
  have mp := fun w => method_pop b w
  have q1 : wrap64 (((n + 1 : Nat) : Int) - 1) = (n : Int) := by unfold wrap64; omega
  have q2 : ((n + 1 : Nat) : Int) - 1 = (n : Int) := by omega
  have q3 : wrap64 (n : Int) = (n : Int) := by unfold wrap64; omega
  clear h hl hg
  by_cases hin : i = n
  · subst hin
    obtain ⟨p, K⟩ := hrem_pop (w2 := w) H.out HL.out HG.out hn
    have K1 := Lib.hid K
    have q4 : ((i : Int) != (i : Int)) = false := by simp
    clear K
    go_enter Try.func23, Try.ntmps23
    go_wp2_with fail
    refine (mlen_any w (some ⟨g, 0, none⟩) (i + 1) cap).mono ?_
    rintro e w' ⟨rfl, rfl⟩
    go_wp2_with fail
    refine K1.out.mono ?_
    rintro e w3 ⟨rfl, h3, hg3, hc3⟩
    have V5 := Lib.hid h3
    have G5 := Lib.hid hg3
    have C5 := Lib.hid hc3
    clear h3 hg3 hc3
    go_wp2_with fail
    go_ret
    refine ⟨_, rfl, ?_, G5.out, C5.out⟩
    rw [show remL l i i = l.take i from if_pos rfl]
    exact V5.out
  · have q4 : ((n : Int) != (i : Int)) = true := by simp; omega
    have q5 : i < n := by omega
    have RM : Hid (remL l n i = (remM l n i).take n) := Lib.hid (if_neg hin)
    clear hin
    by_cases hm : i < (downL (n + 1) (swp l i n) n i).2
    · have EM : Hid (remM l n i = (downL (n + 1) (swp l i n) n i).1) := Lib.hid (by unfold remM; dsimp only; rw [if_pos hm])
      have HM : Hid (decide (i < (downL (n + 1) (swp l i n) n i).2) = true) := Lib.hid (decide_eq_true hm)
      clear hm
      go_enter Try.func23, Try.ntmps23
      go_wp2_with fail
      refine (mlen_any w (some ⟨g, 0, none⟩) (n + 1) cap).mono ?_
      rintro e w' ⟨rfl, rfl⟩
      go_wp2_with fail
      refine ((H.out.sl HL.out HG.out).swap i n (by omega) (by omega)).mono ?_
      rintro e w1 ⟨rfl, h1, hc1⟩
      have H1 := Lib.hid h1
      have V1 := Lib.hid (H.out.back h1 hc1)
      have C1 := Lib.hid hc1
      clear h1 hc1 ml ms
      have K1 := Lib.hid (down_any H1.out i n (by omega) (by omega) (by omega))
      rw [HM.out] at K1
      go_wp2_with fail
      refine K1.out.mono ?_
      rintro e w2 ⟨rfl, h2, hc2⟩
      rw [← EM.out] at h2
      have V2 := Lib.hid (V1.out.back h2 hc2)
      have C2 := Lib.hid hc2
      obtain ⟨p, K⟩ := hrem_pop (w2 := w) V2.out h2.len h2.gl hn
      have K2 := Lib.hid K
      clear h2 hc2 K K1
      go_wp2_with fail
      refine K2.out.mono ?_
      rintro e w3 ⟨rfl, h3, hg3, hc3⟩
      have V5 := Lib.hid h3
      have G5 := Lib.hid hg3
      have C5 := Lib.hid hc3
      clear h3 hg3 hc3
      go_wp2_with fail
      go_ret
      refine ⟨_, rfl, by rw [RM.out]; exact V5.out, G5.out, ?_⟩
      exact ((C1.out.weak (G := fun i => i = b ∨ i = g) (fun i _ hi => .inr hi)).trans C2.out (fun i _ hi => .inr hi)).trans C5.out (fun _ _ h => h)
    · have EM : Hid (remM l n i = upL (n + 1) (downL (n + 1) (swp l i n) n i).1 i) := Lib.hid (by unfold remM; dsimp only; rw [if_neg hm])
      have HM : Hid (decide (i < (downL (n + 1) (swp l i n) n i).2) = false) := Lib.hid (decide_eq_false hm)
      clear hm
      go_enter Try.func23, Try.ntmps23
      go_wp2_with fail
      refine (mlen_any w (some ⟨g, 0, none⟩) (n + 1) cap).mono ?_
      rintro e w' ⟨rfl, rfl⟩
      go_wp2_with fail
      refine ((H.out.sl HL.out HG.out).swap i n (by omega) (by omega)).mono ?_
      rintro e w1 ⟨rfl, h1, hc1⟩
      have H1 := Lib.hid h1
      have V1 := Lib.hid (H.out.back h1 hc1)
      have C1 := Lib.hid hc1
      clear h1 hc1 ml ms
      have K1 := Lib.hid (down_any H1.out i n (by omega) (by omega) (by omega))
      rw [HM.out] at K1
      go_wp2_with fail
      refine K1.out.mono ?_
      rintro e w2 ⟨rfl, h2, hc2⟩
      have V2 := Lib.hid (V1.out.back h2 hc2)
      have C2 := Lib.hid hc2
      have H2 := Lib.hid h2
      clear h2 hc2 K1
      go_wp2_with fail
      refine (up_any H2.out i (by omega) (by omega)).mono ?_
      rintro e w2' ⟨rfl, h2, hc2⟩
      rw [← EM.out] at h2
      have V3 := Lib.hid (V2.out.back h2 hc2)
      have C3 := Lib.hid hc2
      obtain ⟨p, K⟩ := hrem_pop (w2 := w) V3.out h2.len h2.gl hn
      have K2 := Lib.hid K
      clear h2 hc2 K
      go_wp2_with fail
      refine K2.out.mono ?_
      rintro e w3 ⟨rfl, h3, hg3, hc3⟩
      have V5 := Lib.hid h3
      have G5 := Lib.hid hg3
      have C5 := Lib.hid hc3
      clear h3 hg3 hc3
      go_wp2_with fail
      go_ret
      refine ⟨_, rfl, by rw [RM.out]; exact V5.out, G5.out, ?_⟩
      exact (((C1.out.weak (G := fun i => i = b ∨ i = g) (fun i _ hi => .inr hi)).trans C2.out (fun i _ hi => .inr hi)).trans C3.out (fun i _ hi => .inr hi)).trans C5.out (fun _ _ h => h)

end Go.Proofs.Ytofdlbnlfeocoaa
