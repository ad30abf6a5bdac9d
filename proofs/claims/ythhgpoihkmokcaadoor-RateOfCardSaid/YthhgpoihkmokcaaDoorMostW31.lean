/- RateMost. -/
import Derived.Test.YthhgpoihkmokcaaDoorRMost31
namespace Go.Proofs.YthhgpoihkmokcaaDoor
open Go.RowKit Ieee
set_option linter.unusedVariables false

set_option maxRecDepth 20000 in
set_option maxHeartbeats 3200000 in
theorem lists_any {w : World} {a b : Option Addr} {n : Nat} {l m : List Nat} (c1 c2 : Nat) (h : Fs w a n l) (k : Fs w b n m) (hk : l.map key = m.map key) (hn : n ≤ 200) :
    Calls Tryd.prog 21 #[.slice a n c1, .slice b n c2] w fun e w' => e = .returned (.bool true) ∧ Ex w w' := by
  have H := Lib.hid h
  have K := Lib.hid k
  have HL : Hid (l.length = n) := Lib.hid h.1
  have KL : Hid (m.length = n) := Lib.hid k.1
  have HK := Lib.hid hk
  clear h k hk
  have hn' : (n : Int) ≤ 200 := by omega
  go_enter Tryd.func21, Tryd.ntmps21
  go_wp2_with fail
  go_loopw [5] (fun iv wr => ∃ i : Nat, i ≤ n ∧ iv = .int .i64 i ∧ Ex w wr) (fun iv _ => n - (intOf iv).toNat)
  case atStart => exact ⟨0, by omega, rfl, Ex.refl w⟩
  case round =>
    obtain ⟨i, hi, rfl, hx⟩ := hrel
    have HX := Lib.hid hx
    clear hx
    by_cases hlt : i < n
    · have q1 : (i : Int) < (n : Int) := by omega
      obtain ⟨x, hxx⟩ : ∃ x, l.getD i 0 = x := ⟨_, rfl⟩
      obtain ⟨y, hy⟩ : ∃ y, m.getD i 0 = y := ⟨_, rfl⟩
      have hxy : key x = key y := by
        have h1 := congrArg (fun z => z.getD i 0) HK.out
        have e1 := HL.out
        have e2 := KL.out
        simp [show i < l.length by omega, show i < m.length by omega] at h1 hxx hy
        rw [← hxx, ← hy]
        exact h1
      obtain ⟨b1, o1, rfl, hb1, hc1⟩ := (H.out.ex HX.out).2.resolve_left (by omega)
      obtain ⟨b2, o2, rfl, hb2, hc2⟩ := (K.out.ex HX.out).2.resolve_left (by omega)
      have c1' : wr.cell? ⟨b1, o1 + i, none⟩ = some (.float .f64 x) := hxx ▸ hc1 i hlt
      have c2' : wr.cell? ⟨b2, o2 + i, none⟩ = some (.float .f64 y) := hy ▸ hc2 i hlt
      have z1 : ∀ o : Out wr, o.w.cell? ⟨b1, o1 + i, none⟩ = some (.float .f64 x) := fun o => cell_later o.2 c1'
      have z2 : ∀ o : Out wr, o.w.cell? ⟨b2, o2 + i, none⟩ = some (.float .f64 y) := fun o => cell_later o.2 c2'
      have hl : ∀ o : Out wr, Calls Tryd.prog 12 #[.float .f64 x, .float .f64 y] o.w fun e w' => e = .returned (.bool true) ∧ o.w = w' := fun o => same_any o.w x y true (decide_eq_true hxy)
      clear hxx hy hxy hc1 hc2 c1' c2' hb1 hb2
      go_upto_region 6 with fail
      refine wp_region_ex (by kernel_rfl) (by kernel_rfl) ?_
      repeat (go_big_quiet_step ((go_at_call 12; exact quiet_eq (hl _))))
      refine wpQuiet_nil ?_
      rintro w4 ⟨wz, rfl⟩
      have hex : Ex wr wz.w := wz.2
      have HW := Lib.hid hex
      clear hex hl z1 z2
      go_wp2_with fail
      go_roundw
      case rel => exact ⟨i + 1, by omega, by simp, HX.out.trans HW.out⟩
      case measure => simp [intOf]; omega
    · have e : i = n := by omega
      subst e
      have q1 : ¬ ((i : Int) < (i : Int)) := by omega
      go_wp2_with fail
      go_ret
      exact ⟨rfl, HX.out⟩

theorem most_same {n : Nat} {l : List Nat} (k : Int) (N : Nat) (hl : l.length = n) (hN : (min k n).toNat = N) : (mostF k.toNat l).length = N ∧ (mostF k.toNat l).map key = ((refL l n).take N).map key := by
  have h1 := (most_laws k.toNat l).2.1
  have h2 := most_ref k.toNat l
  refine ⟨by rw [h1, hl]; omega, ?_⟩
  rw [h2, hl]
  have hr : (refL l n).length = n := by
    rw [(refL_laws l n (by omega)).2.length_eq, List.length_take]; omega
  by_cases hc : k.toNat ≤ n
  · rw [show N = k.toNat by omega]
  · rw [List.take_of_length_le (by omega), List.take_of_length_le (by omega)]

set_option maxRecDepth 20000 in
set_option maxHeartbeats 3200000 in
theorem walk_RateMost {a : Option Addr} {n : Nat} (cap : Nat) {l : List Nat} (k : Int) (w : World) (h : Fs w a n l) :
    Calls Tryd.prog 4 #[.slice a n cap, .int .i64 k] w fun e w' => e = .returned (.bool true) ∧ Ex w w' := by
  by_cases hn : n ≤ 60
  · have H := Lib.hid h
    have HL : Hid (l.length = n) := Lib.hid h.1
    have i1 := Lib.hid (few_any w a n cap true (decide_eq_true hn))
    have N200 : Hid (n ≤ 200) := Lib.hid (by omega)
    obtain ⟨N, hN⟩ : ∃ N, (min k n).toNat = N := ⟨_, rfl⟩
    obtain ⟨hs1, hs2⟩ := most_same k N h.1 hN
    have S1 := Lib.hid hs1
    have S2 := Lib.hid hs2
    have HN := Lib.hid hN
    have NN : Hid (N ≤ 200) := Lib.hid (by omega)
    clear h hn hs1 hs2 hN
    go_enter Tryd.func4, Tryd.ntmps4
    go_wp2_with fail
    refine i1.out.mono ?_
    rintro e w' ⟨rfl, rfl⟩
    go_wp2_with fail
    refine (told_any w).mono ?_
    rintro e w1 ⟨rfl, hx⟩
    have E1 := Lib.hid hx
    clear hx
    go_wp2_with fail
    refine (most_any cap (H.out.ex E1.out) N200.out k k.toNat rfl).mono ?_
    rintro e w2 ⟨v, rfl, hrow, hx⟩
    obtain ⟨va, vc, rfl, hF⟩ := hrow.fs
    rw [S1.out] at hF ⊢
    have E2 := Lib.hid (E1.out.trans hx)
    have F2 := Lib.hid hF
    clear hx hrow hF
    go_wp2_with fail
    refine (rmost_any cap (H.out.ex E2.out) N200.out k N HN.out).mono ?_
    rintro e w3 ⟨v3, c3, rfl, hF, hx⟩
    have E3 := Lib.hid (E2.out.trans hx)
    have F3 := Lib.hid (F2.out.ex hx)
    have G3 := Lib.hid hF
    clear hx hF
    go_wp2_with fail
    refine (lists_any vc c3 F3.out G3.out S2.out NN.out).mono ?_
    rintro e w4 ⟨rfl, hx⟩
    have E4 := Lib.hid (E3.out.trans hx)
    clear hx
    go_wp2_with fail
    go_ret
    exact ⟨rfl, E4.out⟩
  · have i1 := Lib.hid (few_any w a n cap false (decide_eq_false hn))
    clear h hn
    go_enter Tryd.func4, Tryd.ntmps4
    go_wp2_with fail
    refine i1.out.mono ?_
    rintro e w' ⟨rfl, rfl⟩
    go_wp2_with fail
    refine (told_any w).mono ?_
    rintro e w4 ⟨rfl, hx⟩
    go_wp2_with fail
    go_ret
    exact ⟨rfl, hx⟩

end Go.Proofs.YthhgpoihkmokcaaDoor
