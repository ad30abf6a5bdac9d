/- container/heap: up. -/
import Derived.Test.YtofdlbnlfeocoaaMeth13
import Derived.Outline
namespace Go.Proofs.Ytofdlbnlfeocoaa
open Go.RowKit
set_option linter.unusedVariables false

def upL : Nat → List (Int × Int × Int) → Nat → List (Int × Int × Int)
  | 0, l, _ => l
  | f + 1, l, j => if (j - 1) / 2 = j ∨ ¬ ord (l.getD j zz) (l.getD ((j - 1) / 2) zz) < 0 then l else upL f (swp l ((j - 1) / 2) j) ((j - 1) / 2)

theorem up_zero : ∀ f (l : List (Int × Int × Int)), upL f l 0 = l
  | 0, l => rfl
  | f + 1, l => by simp [upL]

theorem up_stop {f k i : Nat} {m : List (Int × Int × Int)} (hi : i = (k - 1) / 2) (ht : decide (ord (m.getD k zz) (m.getD i zz) < 0) = false) : upL f m k = m := by
  subst hi
  cases f with
  | zero => rfl
  | succ f =>
    unfold upL
    rw [if_pos (.inr (of_decide_eq_false ht))]
theorem up_go {f k i : Nat} {m : List (Int × Int × Int)} (hi : i = (k - 1) / 2) (h0 : ¬ k = 0) (hf : 0 < f) (ht : decide (ord (m.getD k zz) (m.getD i zz) < 0) = true) : upL f m k = upL (f - 1) (swp m i k) i := by
  subst hi
  cases f with
  | zero => omega
  | succ f =>
    rw [upL, if_neg]
    · rfl
    · rintro (h | h)
      · omega
      · exact h (of_decide_eq_true ht)

def pS (b : Nat) : Value := .iface 55 (.pointer (some ⟨b, 0, none⟩))

/-- The sleepers l in block b's first cell. -/
structure Sl (w : World) (base b g cap n : Nat) (l : List (Int × Int × Int)) : Prop where
  cell : w.cell? ⟨b, 0, none⟩ = some (.slice (some ⟨g, 0, none⟩) n cap)
  row : Row3 w base (.slice (some ⟨g, 0, none⟩) n cap) l
  len : l.length = n
  gb : g ≠ b
  gl : g < w.heap.size
  bl : b < w.heap.size

theorem Sl.ex {w w' : World} {base b g cap n : Nat} {l : List (Int × Int × Int)} (h : Sl w base b g cap n l) (k : Ex w w') : Sl w' base b g cap n l :=
  ⟨(k.cell (p := ⟨b, 0, none⟩) h.bl).trans h.cell, row_chg (F := fun _ => False) h.row (k.chg _) (fun _ _ h => h), h.len, h.gb, Nat.lt_of_lt_of_le h.gl k.size, Nat.lt_of_lt_of_le h.bl k.size⟩

theorem Sl.less {w : World} {base b g cap n : Nat} {l : List (Int × Int × Int)} (h : Sl w base b g cap n l) (i j : Nat) (hi : i < n) (hj : j < n) (t : Bool) (ht : decide (ord (l.getD i zz) (l.getD j zz) < 0) = t) :
    Calls Try.prog 70 #[.slice (some ⟨g, 0, none⟩) n cap, .int .i64 i, .int .i64 j] w fun e w' => e = .returned (.bool t) ∧ Ex w w' := by
  have hl := h.len
  subst hl ht
  have e1 : l.getD i zz = l[i] := by simp [hi]
  have e2 : l.getD j zz = l[j] := by simp [hj]
  rw [e1, e2]
  exact less_at h.row h.gl i j hi hj

theorem Sl.swap {w : World} {base b g cap n : Nat} {l : List (Int × Int × Int)} (h : Sl w base b g cap n l) (i j : Nat) (hi : i < n) (hj : j < n) :
    Calls Try.prog 71 #[.slice (some ⟨g, 0, none⟩) n cap, .int .i64 i, .int .i64 j] w fun e w' => e = .returned (.tuple #[]) ∧ Sl w' base b g cap n (swp l i j) ∧ Chg (fun i => i = g) w w' := by
  have hl := h.len
  subst hl
  refine (swap_at h.row h.gl i j hi hj).mono ?_
  rintro e w' ⟨he, hr, hc⟩
  have hs : w'.cell? ⟨b, 0, none⟩ = w.cell? ⟨b, 0, none⟩ := by
    have := hc.block b h.bl (fun e => h.gb e.symm)
    simp only [World.cell?, this]
  exact ⟨he, ⟨hs.trans h.cell, hr, swp_length l i j, h.gb, Nat.lt_of_lt_of_le h.gl hc.size, Nat.lt_of_lt_of_le h.bl hc.size⟩, hc⟩

set_option maxRecDepth 20000 in
set_option maxHeartbeats 3200000 in
theorem up_any {w : World} {base b g cap n : Nat} {l : List (Int × Int × Int)} (h : Sl w base b g cap n l) (j : Nat) (hj : j < n) (hn : n ≤ 1000) :
    Calls Try.prog 25 #[pS b, .int .i64 j] w fun e w' => e = .returned (.tuple #[]) ∧ Sl w' base b g cap n (upL n l j) ∧ Chg (fun i => i = g) w w' := by
  unfold pS
  go_enter Try.func25, Try.ntmps25
  go_wp2_with fail
  go_loopw [1] (fun jv wr => ∃ (k f : Nat) (m : List (Int × Int × Int)), k < n ∧ jv = .int .i64 k ∧ Sl wr base b g cap n m ∧ Chg (fun i => i = g) w wr ∧ upL f m k = upL n l j ∧ k < f) (fun jv _ => (intOf jv).toNat)
  case atStart => exact ⟨j, n, l, hj, rfl, h, Chg.refl _ _, rfl, hj⟩
  case round =>
    obtain ⟨k, f, m, hk, rfl, hs, hx, hu, hf⟩ := hrel
    have HS := Lib.hid hs
    have HX := Lib.hid hx
    have HU := Lib.hid hu
    have c0 := hs.cell
    clear hs hx hu h
    by_cases h0 : k = 0
    · subst h0
      rw [show ((0 : Nat) : Int) = 0 from rfl]
      go_wp2
      refine Go.Great.bodyPost_end0 rfl rfl ⟨rfl, ?_, HX.out⟩
      have := HU.out
      rw [← this, up_zero]
      exact HS.out
    · obtain ⟨i, hi⟩ : ∃ i, i = (k - 1) / 2 := ⟨_, rfl⟩
      have q1 : wrap64 ((k : Int) - 1) = (k : Int) - 1 := by unfold wrap64; omega
      have q2 : wrap64 (i : Int) = (i : Int) := by unfold wrap64; omega
      have q4 : ((k : Int) - 1).tdiv 2 = (i : Int) := by
        rw [Int.tdiv_eq_ediv_of_nonneg (by omega)]
        omega
      have q3 : ((i : Int) == (k : Int)) = false := by simp; omega
      have q5 : i < k := by omega
      obtain ⟨t, ht⟩ : ∃ t, decide (ord (m.getD k zz) (m.getD i zz) < 0) = t := ⟨_, rfl⟩
      have HT := Lib.hid ht
      have HI := Lib.hid hi
      have HN := Lib.hid h0
      have ml := method_less c0
      clear hi h0 ht
      cases t with
      | false =>
        go_wp2_with fail
        refine (HS.out.less k i hk (by omega) false HT.out).mono ?_
        rintro e w1 ⟨rfl, h1⟩
        have H1 := Lib.hid h1
        clear h1
        go_wp2_with fail
        refine Go.Great.bodyPost_end0 rfl rfl ⟨rfl, ?_, HX.out.ex H1.out⟩
        rw [← HU.out, up_stop HI.out HT.out]
        exact HS.out.ex H1.out
      | true =>
        go_wp2_with fail
        refine (HS.out.less k i hk (by omega) true HT.out).mono ?_
        rintro e w1 ⟨rfl, h1⟩
        have H1 := Lib.hid (HS.out.ex h1)
        have H2 := Lib.hid (HX.out.ex h1)
        have c1 := (HS.out.ex h1).cell
        have ms := method_swap c1
        clear h1
        go_wp2_with fail
        refine (H1.out.swap i k (by omega) hk).mono ?_
        rintro e w2 ⟨rfl, h3, h4⟩
        have H3 := Lib.hid h3
        have H4 := Lib.hid h4
        clear h3 h4
        go_wp2_with fail
        go_roundw
        case rel =>
          refine ⟨i, f - 1, swp m i k, by omega, rfl, H3.out, H2.out.trans H4.out (fun _ _ h => h), ?_, by omega⟩
          rw [← HU.out]
          exact (up_go HI.out HN.out (by omega) HT.out).symm
        case measure => simp [intOf]; omega

end Go.Proofs.Ytofdlbnlfeocoaa
