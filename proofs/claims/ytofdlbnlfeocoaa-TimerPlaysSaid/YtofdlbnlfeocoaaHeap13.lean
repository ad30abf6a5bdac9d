/- container/heap: Push, Pop. -/
import Derived.Test.YtofdlbnlfeocoaaPush13
namespace Go.Proofs.Ytofdlbnlfeocoaa
open Go.RowKit
set_option linter.unusedVariables false

theorem Sv.sl {w : World} {k : Int} {base b g n cap : Nat} {l : List (Int × Int × Int)} (h : Sv w base b k (.slice (some ⟨g, 0, none⟩) n cap) l) (hn : l.length = n) (hg : g < w.heap.size) : Sl w base b g cap n l :=
  ⟨h.cell, h.row, hn, by have := h.own g rfl; have := h.bl; omega, hg, by have := h.bl; have := h.wl; omega⟩
theorem Sv.back {w w' : World} {k : Int} {base b g n cap : Nat} {l m : List (Int × Int × Int)} (h : Sv w base b k (.slice (some ⟨g, 0, none⟩) n cap) l) (k' : Sl w' base b g cap n m) (hc : Chg (fun i => i = g) w w') : Sv w' base b k (.slice (some ⟨g, 0, none⟩) n cap) m := by
  have hb := hc.block b (by have := h.bl; have := h.wl; omega) (fun e => k'.gb e.symm)
  refine ⟨k'.cell, k'.row, ?_, ?_, ?_, h.bl, Nat.le_trans h.wl hc.size⟩
  · have := h.soft
    simp only [World.frozen?, hb] at this ⊢
    exact this
  · have := h.mkd
    simp only [World.cell?, hb] at this ⊢
    exact this
  · have := h.msoft
    simp only [World.frozen?, hb] at this ⊢
    exact this

def FB (base b : Nat) (i : Nat) : Prop := i = b ∨ base ≤ i
theorem Sv.fb {w w1 w' : World} {k : Int} {base b : Nat} {v : Value} {l : List (Int × Int × Int)} (h : Sv w base b k v l) (c : Chg (OB b v) w1 w') : Chg (FB base b) w1 w' :=
  c.weak (fun i _ hi => hi.imp id (fun e => h.own i e))

theorem mlen_any (w : World) (a : Option Addr) (n cap : Nat) : Calls Try.prog 69 #[.slice a n cap] w fun e w' => e = .returned (.int .i64 (n : Nat)) ∧ w = w' := by
  go_enter Try.func69, Try.ntmps69
  go_wp2
  go_ret
  exact ⟨rfl, rfl⟩

set_option maxRecDepth 20000 in
set_option maxHeartbeats 3200000 in
theorem hpush_any {w : World} {k : Int} {base b : Nat} {v : Value} {l : List (Int × Int × Int)} (h : Sv w base b k v l) (p : Int × Int × Int) (n : Nat) (hl : l.length = n) (hn : n < 1000) :
    Calls Try.prog 20 #[pS b, .iface 57 (.agg #[.int .i64 p.1, .int .i64 p.2.1, .int .i64 p.2.2])] w fun e w' => e = .returned (.tuple #[]) ∧
      (∃ g cap, Sv w' base b k (.slice (some ⟨g, 0, none⟩) (n + 1) cap) (upL (n + 1) (l ++ [p]) n) ∧ g < w'.heap.size ∧ (v.ownBlock = some g ∨ w.heap.size ≤ g)) ∧ Chg (OB b v) w w' := by
  subst hl
  unfold pS
  have mp := method_push b w
  have K1 := Lib.hid (mpush_any h p hn)
  have H := Lib.hid h
  clear h
  go_enter Try.func20, Try.ntmps20
  go_wp2_with fail
  refine K1.out.mono ?_
  rintro e w1 ⟨rfl, ⟨g, cap, h1, hg, hat⟩, hc⟩
  have HAT := Lib.hid hat
  clear hat
  have H1 := Lib.hid h1
  have C1 := Lib.hid hc
  have HG := Lib.hid hg
  have ml := method_len h1.cell
  have q1 : wrap64 (((l.length + 1 : Nat) : Int) - 1) = ((l.length : Nat) : Int) := by unfold wrap64; omega
  have q2 : ((l.length + 1 : Nat) : Int) - 1 = ((l.length : Nat) : Int) := by omega
  clear h1 hc hg mp
  go_wp2_with fail
  refine (mlen_any w1 (some ⟨g, 0, none⟩) (l.length + 1) cap).mono ?_
  rintro e w' ⟨rfl, rfl⟩
  go_wp2_with fail
  refine (up_any (H1.out.sl (by simp) HG.out) l.length (by omega) (by omega)).mono ?_
  rintro e w2 ⟨rfl, h2, hc2⟩
  have H2 := Lib.hid (H1.out.back h2 hc2)
  have G2 := Lib.hid h2.gl
  have C2 := Lib.hid hc2
  clear h2 hc2
  go_wp2_with fail
  refine Go.Great.bodyPost_end0 rfl rfl ⟨rfl, ⟨g, cap, H2.out, G2.out, HAT.out⟩, ?_⟩
  refine (C1.out.weak (G := OB b v) (fun i _ hi => hi)).trans C2.out (fun i hlt hi => ?_)
  subst hi
  rcases HAT.out with h | h
  · exact .inr h
  · omega

end Go.Proofs.Ytofdlbnlfeocoaa
