/- TimerPlays: the walk. -/
import Derived.Test.YtofdlbnlfeocoaaPlays13P
import Derived.Test.YtofdlbnlfeocoaaRInts13
import Derived.Test.YtofdlbnlfeocoaaTold13
import Derived.Deep.CutRange
import Derived.Deep.Cut
import Derived.Deep.CutBlock
import Derived.BigQuiet
namespace Go.Proofs.Ytofdlbnlfeocoaa
open Go.RowKit
set_option linter.unusedVariables false
set_option linter.unusedSimpArgs false

set_option maxRecDepth 20000 in
set_option maxHeartbeats 12800000 in
theorem plays_walk (a : Option Addr) (len cap : Nat) (w : World)
    (hb : len = 0 ∨ ∃ b off, a = some ⟨b, off, none⟩ ∧ b < w.heap.size ∧ ∀ i, i < len → ∃ x y z : Int, w.cell? ⟨b, off + i * 3, none⟩ = some (.int .i64 x) ∧ w.cell? ⟨b, off + i * 3 + 1, none⟩ = some (.int .i64 y) ∧ w.cell? ⟨b, off + i * 3 + 2, none⟩ = some (.int .i64 z)) :
    Calls Try.prog 5 #[.slice a len cap] w fun e w' => e = .returned (.bool true) ∧ Ex w w' := by
  have Hb := Lib.hid hb
  clear hb
  go_enter Try.func5, Try.ntmps5
  go_wp2_with fail
  refine (ts_new _).mono ?_
  rintro e w1 ⟨rfl, ht, hx⟩
  have HT := Lib.hid ht
  have HX := Lib.hid hx
  clear ht hx
  go_wp2_with fail
  obtain ⟨W0, hW0⟩ : ∃ W, W = w1.alloc (.cells #[.slice none 0 0] 39) := ⟨_, rfl⟩
  have P0 : Hid (Pr W0 (w.heap.size + 1) w.heap.size none 0 w1.heap.size (.slice none 0 0) [] []) := Lib.hid (by
    have hb := Box.fresh w1 #[.slice none 0 0] 39
    rw [← hW0] at hb
    refine ⟨HT.out.ex (hW0 ▸ Ex.made w1 _), ⟨hb.cell 0, hb.soft 0, hb.lt, .inl ⟨rfl, rfl⟩⟩, HT.out.bl.2.1, fun g hg => (by cases hg), fun h => (by cases h), fun g hg => (by cases hg)⟩)
  have X0 : Hid (Ex w W0) := Lib.hid (HX.out.trans (hW0 ▸ Ex.made w1 _))
  obtain ⟨xb, hxb⟩ : ∃ x, w1.heap.size = x := ⟨_, rfl⟩
  obtain ⟨b, hbb⟩ : ∃ x, w.heap.size = x := ⟨_, rfl⟩
  rw [← hW0, hxb, hbb]
  rw [hxb, hbb] at P0
  have HB := Lib.hid hbb
  clear hW0 hxb hbb HT HX
  go_loopw [5] (fun iv wr => LoopR w wr b xb len iv) (fun iv _ => 60 - (intOf iv).toNat)
  case atStart => exact LoopR.mk ⟨0, 0, none, _, [], by omega, by omega, rfl, by omega, by simp, List.Pairwise.nil, P0.out, X0.out⟩
  case round =>
    obtain ⟨i, k, o, v, S, hi1, hi2, rfl, hk, hSl, hup, hpr, hex⟩ := hrel.out
    clear P0 X0
    have PR := Lib.hid hpr
    have EX := Lib.hid hex
    have UP := Lib.hid hup
    clear hpr hex hup
    by_cases hin : i < len ∧ i < 60
    · obtain ⟨k1, k2⟩ := hin
      obtain ⟨ob, off, rfl, hbb, hops⟩ := Hb.out.resolve_left (by omega)
      obtain ⟨kd, G, Wh, o0, o1, o2⟩ := hops i k1
      have d0 : wr.cell? ⟨ob, off + i * 3, none⟩ = some (.int .i64 kd) := (EX.out.cell (p := ⟨ob, off + i * 3, none⟩) hbb).trans o0
      have d1 : wr.cell? ⟨ob, off + i * 3 + 1, none⟩ = some (.int .i64 G) := (EX.out.cell (p := ⟨ob, off + i * 3 + 1, none⟩) hbb).trans o1
      have d2 : wr.cell? ⟨ob, off + i * 3 + 2, none⟩ = some (.int .i64 Wh) := (EX.out.cell (p := ⟨ob, off + i * 3 + 2, none⟩) hbb).trans o2
      clear o0 o1 o2 hops
      obtain ⟨r, hr⟩ : ∃ r, kd.tmod 5 = r := ⟨_, rfl⟩
      have r1 : -5 < r := by rw [← hr]; have := Int.lt_tmod_of_pos kd (b := 5) (by omega); omega
      have r2 : r < 5 := by rw [← hr]; exact Int.tmod_lt_of_pos kd (by omega)
      go_upto_region 9 with fail
      have e0 := Ex.made wr (.cells #[.int .i64 kd, .int .i64 G, .int .i64 Wh] 41)
      have bo := Box.fresh wr #[.int .i64 kd, .int .i64 G, .int .i64 Wh] 41
      obtain ⟨nb, hnb⟩ : ∃ b, wr.heap.size = b := ⟨_, rfl⟩
      obtain ⟨W1, hW1⟩ : ∃ W1, W1 = wr.alloc (.cells #[.int .i64 kd, .int .i64 G, .int .i64 Wh] 41) := ⟨_, rfl⟩
      rw [hnb] at bo ⊢
      rw [← hW1] at e0 bo ⊢
      have P1 := Lib.hid (PR.out.ex e0)
      have E1 := Lib.hid (EX.out.trans e0)
      have B1 := Lib.hid bo
      have q0 : W1.cell? ⟨nb, 0, none⟩ = some (.int .i64 kd) := bo.cell 0
      have q1 : W1.cell? ⟨nb, 1, none⟩ = some (.int .i64 G) := bo.cell 1
      have q2 : W1.cell? ⟨nb, 2, none⟩ = some (.int .i64 Wh) := bo.cell 2
      have HNB : Hid (b < nb ∧ xb < nb ∧ o ≠ some nb) := Lib.hid ⟨by have := PR.out.ts.bl; omega, by have := PR.out.rt.lt; omega, fun e => by have := (PR.out.ts.bl.2.2 nb e).2; omega⟩
      clear e0 bo hnb hW1 d0 d1 d2
      go_upto_block 2 with fail
      go_cut [] from 16 to 138 (fun wx => ∃ (k4 : Nat) (o4 : Option Nat) (v4 : Value) (S4 : List T3), k4 ≤ i + 1 ∧ S4.length ≤ i + 1 ∧ Up S4 ∧ Pr wx (b + 1) b o4 k4 xb v4 S4 S4 ∧ Ex w wx)
      case first =>
        by_cases s0 : (r + 5) % 5 = 0
        · have t0 : ((r + 5) % 5 == 0) = true := by simpa using s0
          go_wp2_with fail
          refine (ts_add P1.out.ts (by omega) (by omega) Wh G).mono ?_
          rintro e W2 ⟨rfl, ⟨o4, ht, hn⟩, hc⟩
          have P2 := Lib.hid (P1.out.t ht hn hc)
          have B2 := Lib.hid (P1.out.boxt B1.out HNB.out hc)
          have E2 := Lib.hid (P1.out.ext HB.out E1.out hc)
          clear ht hn hc q0 q1 q2 P1 B1 E1
          have q1 : W2.cell? ⟨nb, 1, none⟩ = some (.int .i64 G) := B2.out.cell 1
          have q2 : W2.cell? ⟨nb, 2, none⟩ = some (.int .i64 Wh) := B2.out.cell 2
          go_wp2_with fail
          refine (radd_any P2.out.rt (by omega) Wh G ((k : Int) + 1)).mono ?_
          rintro e W3 ⟨rfl, ⟨v4, hr, hn⟩, hc⟩
          rw [addR_ins UP.out] at hr
          have P3 := Lib.hid (P2.out.x hr hn hc)
          have E3 := Lib.hid (P2.out.exx HB.out E2.out hc)
          clear hr hn hc q1 q2
          go_wp2_with fail
          go_meet
          exact ⟨k + 1, o4, v4, _, by omega, by rw [insT_len]; omega, up_ins _ UP.out, P3.out, E3.out⟩
        · have t0 : ((r + 5) % 5 == 0) = false := by simpa using s0
          by_cases s1 : (r + 5) % 5 = 1
          · have t1 : ((r + 5) % 5 == 1) = true := by simpa using s1
            go_wp2_with fail
            refine (ts_add P1.out.ts (by omega) (by omega) Wh G).mono ?_
            rintro e W2 ⟨rfl, ⟨o4, ht, hn⟩, hc⟩
            have P2 := Lib.hid (P1.out.t ht hn hc)
            have B2 := Lib.hid (P1.out.boxt B1.out HNB.out hc)
            have E2 := Lib.hid (P1.out.ext HB.out E1.out hc)
            clear ht hn hc q0 q1 q2 P1 B1 E1
            have q1 : W2.cell? ⟨nb, 1, none⟩ = some (.int .i64 G) := B2.out.cell 1
            have q2 : W2.cell? ⟨nb, 2, none⟩ = some (.int .i64 Wh) := B2.out.cell 2
            go_wp2_with fail
            refine (radd_any P2.out.rt (by omega) Wh G ((k : Int) + 1)).mono ?_
            rintro e W3 ⟨rfl, ⟨v4, hr, hn⟩, hc⟩
            rw [addR_ins UP.out] at hr
            have P3 := Lib.hid (P2.out.x hr hn hc)
            have E3 := Lib.hid (P2.out.exx HB.out E2.out hc)
            clear hr hn hc q1 q2
            go_wp2_with fail
            go_meet
            exact ⟨k + 1, o4, v4, _, by omega, by rw [insT_len]; omega, up_ins _ UP.out, P3.out, E3.out⟩
          · have t1 : ((r + 5) % 5 == 1) = false := by simpa using s1
            by_cases s2 : (r + 5) % 5 = 2
            · have t2 : ((r + 5) % 5 == 2) = true := by simpa using s2
              go_wp2_with fail
              refine (ts_add P1.out.ts (by omega) (by omega) Wh G).mono ?_
              rintro e W2 ⟨rfl, ⟨o4, ht, hn⟩, hc⟩
              have P2 := Lib.hid (P1.out.t ht hn hc)
              have B2 := Lib.hid (P1.out.boxt B1.out HNB.out hc)
              have E2 := Lib.hid (P1.out.ext HB.out E1.out hc)
              clear ht hn hc q0 q1 q2 P1 B1 E1
              have q1 : W2.cell? ⟨nb, 1, none⟩ = some (.int .i64 G) := B2.out.cell 1
              have q2 : W2.cell? ⟨nb, 2, none⟩ = some (.int .i64 Wh) := B2.out.cell 2
              go_wp2_with fail
              refine (radd_any P2.out.rt (by omega) Wh G ((k : Int) + 1)).mono ?_
              rintro e W3 ⟨rfl, ⟨v4, hr, hn⟩, hc⟩
              rw [addR_ins UP.out] at hr
              have P3 := Lib.hid (P2.out.x hr hn hc)
              have E3 := Lib.hid (P2.out.exx HB.out E2.out hc)
              clear hr hn hc q1 q2
              go_wp2_with fail
              go_meet
              exact ⟨k + 1, o4, v4, _, by omega, by rw [insT_len]; omega, up_ins _ UP.out, P3.out, E3.out⟩
            · have t2 : ((r + 5) % 5 == 2) = false := by simpa using s2
              by_cases s3 : (r + 5) % 5 = 3
              · have t3 : ((r + 5) % 5 == 3) = true := by simpa using s3
                clear s0 s1 s2 s3
                go_upto_region 18 with fail
                refine wp_region_held_drew (S := fun w' => Box w' nb #[.int .i64 kd, .int .i64 G, .int .i64 Wh] 41) (by kernel_rfl) (B1.out.ex (ex_drw W1)) (fun hHeld => ?_)
                have P2 := Lib.hid (P1.out.ex (ex_drw W1))
                have E2 := Lib.hid (E1.out.trans (ex_drw W1))
                clear P1 E1 B1 q0 q1 q2
                generalize W1.drew = Y0 at *
                refine wpAnyH_take (i := 0) (v := ?_) rfl (by kernel_rfl) (by kernel_rfl) (by kernel_rfl) (fun _ _ _ h => h) (Or.inl ⟨by rfl, ?_⟩) (by assumption) ?_
                rotate_left
                · intro w hSw; (try dsimp only at hSw); have c1 : w.cell? ⟨nb, 1, none⟩ = some (.int .i64 G) := hSw.cell 1; have c2 : w.cell? ⟨nb, 2, none⟩ = some (.int .i64 Wh) := hSw.cell 2; clear hSw; go_simp; try with_reducible rfl
                try simp only [Act.put, List.setIfInBounds_toArray, List.set_cons_zero, List.set_cons_succ]
                refine wpAnyH_take (i := 1) (v := ?_) rfl (by kernel_rfl) (by kernel_rfl) (by kernel_rfl) (fun _ _ _ h => h) (Or.inl ⟨by rfl, ?_⟩) (by assumption) ?_
                rotate_left
                · intro w hSw; (try dsimp only at hSw); have c1 : w.cell? ⟨nb, 1, none⟩ = some (.int .i64 G) := hSw.cell 1; have c2 : w.cell? ⟨nb, 2, none⟩ = some (.int .i64 Wh) := hSw.cell 2; clear hSw; go_simp; try with_reducible rfl
                try simp only [Act.put, List.setIfInBounds_toArray, List.set_cons_zero, List.set_cons_succ]
                refine wpAnyH_take (i := 2) (v := ?_) rfl (by kernel_rfl) (by kernel_rfl) (by kernel_rfl) (fun _ _ _ h => h) (Or.inl ⟨by rfl, ?_⟩) (by assumption) ?_
                rotate_left
                · intro w hSw; (try dsimp only at hSw); have c1 : w.cell? ⟨nb, 1, none⟩ = some (.int .i64 G) := hSw.cell 1; have c2 : w.cell? ⟨nb, 2, none⟩ = some (.int .i64 Wh) := hSw.cell 2; clear hSw; go_simp; try with_reducible rfl
                try simp only [Act.put, List.setIfInBounds_toArray, List.set_cons_zero, List.set_cons_succ]
                refine wpAnyH_take (i := 4) (v := ?_) rfl (by kernel_rfl) (by kernel_rfl) (by kernel_rfl) (fun _ _ _ h => h) (Or.inl ⟨by rfl, ?_⟩) (by assumption) ?_
                rotate_left
                · intro w hSw; (try dsimp only at hSw); have c1 : w.cell? ⟨nb, 1, none⟩ = some (.int .i64 G) := hSw.cell 1; have c2 : w.cell? ⟨nb, 2, none⟩ = some (.int .i64 Wh) := hSw.cell 2; clear hSw; go_simp; try with_reducible rfl
                try simp only [Act.put, List.setIfInBounds_toArray, List.set_cons_zero, List.set_cons_succ]
                refine wpAnyH_take (i := 5) (v := ?_) rfl (by kernel_rfl) (by kernel_rfl) (by kernel_rfl) (fun _ _ _ h => h) (Or.inl ⟨by rfl, ?_⟩) (by assumption) ?_
                rotate_left
                · intro w hSw; (try dsimp only at hSw); have c1 : w.cell? ⟨nb, 1, none⟩ = some (.int .i64 G) := hSw.cell 1; have c2 : w.cell? ⟨nb, 2, none⟩ = some (.int .i64 Wh) := hSw.cell 2; clear hSw; go_simp; try with_reducible rfl
                try simp only [Act.put, List.setIfInBounds_toArray, List.set_cons_zero, List.set_cons_succ]
                refine wpAnyH_take (i := 6) (v := ?_) rfl (by kernel_rfl) (by kernel_rfl) (by kernel_rfl) (fun _ _ _ h => h) (Or.inl ⟨by rfl, ?_⟩) (by assumption) ?_
                rotate_left
                · intro w hSw; (try dsimp only at hSw); have c1 : w.cell? ⟨nb, 1, none⟩ = some (.int .i64 G) := hSw.cell 1; have c2 : w.cell? ⟨nb, 2, none⟩ = some (.int .i64 Wh) := hSw.cell 2; clear hSw; go_simp; try with_reducible rfl
                try simp only [Act.put, List.setIfInBounds_toArray, List.set_cons_zero, List.set_cons_succ]
                refine wpAnyH_ready (rs := [3]) (by kernel_rfl) (by simp) ?_
                refine AllReadyH.cons rfl (fun K hK => ?_) AllReadyH.nil
                go_simp
                go_at_call 11
                refine (ts_due P2.out.ts (by omega) Wh).mono ?_
                rintro e Y1 ⟨u, rfl, hrow, ht, hc⟩
                have hbx := P2.out.boxt hHeld HNB.out hc
                refine hK.out _ _ hbx (fun hHeld => ?_)
                clear hK K hbx
                try simp only [Act.put, List.setIfInBounds_toArray, List.set_cons_zero, List.set_cons_succ]
                have P3 := Lib.hid (P2.out.t ht (.inl rfl) hc)
                have E3 := Lib.hid (P2.out.ext HB.out E2.out hc)
                have U1 := Lib.hid hrow
                clear ht hrow hc
                refine wpAnyH_ready (rs := [7]) (by kernel_rfl) (by simp) ?_
                refine AllReadyH.cons rfl (fun K hK => ?_) AllReadyH.nil
                go_simp
                go_at_call 17
                refine (rdue_any P3.out.rt (by omega) Wh).mono ?_
                rintro e Y2 ⟨u2, rfl, hrow2, ⟨v4, hr, hn⟩, hc2⟩
                have eR := rdueL_is Wh UP.out
                rw [eR] at hrow2 hr
                dsimp only at hrow2 hr
                clear eR
                have hbx := boxx hHeld HNB.out hc2
                refine hK.out _ _ hbx (fun hHeld => ?_)
                clear hK K hbx
                try simp only [Act.put, List.setIfInBounds_toArray, List.set_cons_zero, List.set_cons_succ]
                have P4 := Lib.hid (P3.out.x hr hn hc2)
                have E4 := Lib.hid (P3.out.exx HB.out E3.out hc2)
                have L1 := Lib.hid (rowI_of (row_x P2.out U1.out hc2))
                have L2 := Lib.hid (rowI_of hrow2)
                clear hr hn hc2 hrow2 U1 P3 E3 P2 E2
                refine wpAnyH_ready (rs := [8]) (by kernel_rfl) (by simp) ?_
                refine AllReadyH.cons rfl (fun K hK => ?_) AllReadyH.nil
                go_simp
                go_at_call 16
                refine (rints_any (by have := due_len Wh S; omega) L1.out L2.out).mono ?_
                rintro e Y3 ⟨rfl, hx⟩
                have hbx := hHeld.ex hx
                refine hK.out _ _ hbx (fun hHeld => ?_)
                clear hK K hbx
                try simp only [Act.put, List.setIfInBounds_toArray, List.set_cons_zero, List.set_cons_succ]
                have REL : Hid (∃ (k4 : Nat) (o4 : Option Nat) (v4 : Value) (S4 : List T3), k4 ≤ i + 1 ∧ S4.length ≤ i + 1 ∧ Up S4 ∧ Pr Y3 (b + 1) b o4 k4 xb v4 S4 S4 ∧ Ex w Y3) := Lib.hid ⟨k, o, v4, leftS Wh S, by omega, by have := left_len Wh S; omega, up_left Wh UP.out, P4.out.ex hx, E4.out.trans hx⟩
                clear hx P4 E4 L1 L2
                refine wpAnyH_ready (rs := [9]) (by kernel_rfl) (by simp) ?_
                refine AllReadyH.cons rfl (fun K hK => ?_) AllReadyH.nil
                go_simp
                refine hK.out _ _ hHeld (fun hHeld => ?_)
                clear hK K
                try simp only [Act.put, List.setIfInBounds_toArray, List.set_cons_zero, List.set_cons_succ]
                refine wpAnyH_done (by kernel_rfl) ?_ _
                clear hHeld
                rotate_left
                all_goals
                  go_wp2_with fail
                  go_meet
                  exact REL.out
              · have t3 : ((r + 5) % 5 == 3) = false := by simpa using s3
                clear s0 s1 s2 s3
                go_upto_region 10 with fail
                refine wp_region_held_drew (S := fun w' => Box w' nb #[.int .i64 kd, .int .i64 G, .int .i64 Wh] 41) (by kernel_rfl) (B1.out.ex (ex_drw W1)) (fun hHeld => ?_)
                have P2 := Lib.hid (P1.out.ex (ex_drw W1))
                have E2 := Lib.hid (E1.out.trans (ex_drw W1))
                clear P1 E1 B1 q0 q1 q2
                generalize W1.drew = Y0 at *
                refine wpAnyH_take (i := 0) (v := ?_) rfl (by kernel_rfl) (by kernel_rfl) (by kernel_rfl) (fun _ _ _ h => h) (Or.inl ⟨by rfl, ?_⟩) (by assumption) ?_
                rotate_left
                · intro w hSw; (try dsimp only at hSw); have c1 : w.cell? ⟨nb, 1, none⟩ = some (.int .i64 G) := hSw.cell 1; have c2 : w.cell? ⟨nb, 2, none⟩ = some (.int .i64 Wh) := hSw.cell 2; clear hSw; go_simp; try with_reducible rfl
                try simp only [Act.put, List.setIfInBounds_toArray, List.set_cons_zero, List.set_cons_succ]
                refine wpAnyH_take (i := 1) (v := ?_) rfl (by kernel_rfl) (by kernel_rfl) (by kernel_rfl) (fun _ _ _ h => h) (Or.inl ⟨by rfl, ?_⟩) (by assumption) ?_
                rotate_left
                · intro w hSw; (try dsimp only at hSw); have c1 : w.cell? ⟨nb, 1, none⟩ = some (.int .i64 G) := hSw.cell 1; have c2 : w.cell? ⟨nb, 2, none⟩ = some (.int .i64 Wh) := hSw.cell 2; clear hSw; go_simp; try with_reducible rfl
                try simp only [Act.put, List.setIfInBounds_toArray, List.set_cons_zero, List.set_cons_succ]
                refine wpAnyH_take (i := 2) (v := ?_) rfl (by kernel_rfl) (by kernel_rfl) (by kernel_rfl) (fun _ _ _ h => h) (Or.inl ⟨by rfl, ?_⟩) (by assumption) ?_
                rotate_left
                · intro w hSw; (try dsimp only at hSw); have c1 : w.cell? ⟨nb, 1, none⟩ = some (.int .i64 G) := hSw.cell 1; have c2 : w.cell? ⟨nb, 2, none⟩ = some (.int .i64 Wh) := hSw.cell 2; clear hSw; go_simp; try with_reducible rfl
                try simp only [Act.put, List.setIfInBounds_toArray, List.set_cons_zero, List.set_cons_succ]
                refine wpAnyH_take (i := 4) (v := ?_) rfl (by kernel_rfl) (by kernel_rfl) (by kernel_rfl) (fun _ _ _ h => h) (Or.inl ⟨by rfl, ?_⟩) (by assumption) ?_
                rotate_left
                · intro w hSw; (try dsimp only at hSw); have c1 : w.cell? ⟨nb, 1, none⟩ = some (.int .i64 G) := hSw.cell 1; have c2 : w.cell? ⟨nb, 2, none⟩ = some (.int .i64 Wh) := hSw.cell 2; clear hSw; go_simp; try with_reducible rfl
                try simp only [Act.put, List.setIfInBounds_toArray, List.set_cons_zero, List.set_cons_succ]
                refine wpAnyH_take (i := 5) (v := ?_) rfl (by kernel_rfl) (by kernel_rfl) (by kernel_rfl) (fun _ _ _ h => h) (Or.inl ⟨by rfl, ?_⟩) (by assumption) ?_
                rotate_left
                · intro w hSw; (try dsimp only at hSw); have c1 : w.cell? ⟨nb, 1, none⟩ = some (.int .i64 G) := hSw.cell 1; have c2 : w.cell? ⟨nb, 2, none⟩ = some (.int .i64 Wh) := hSw.cell 2; clear hSw; go_simp; try with_reducible rfl
                try simp only [Act.put, List.setIfInBounds_toArray, List.set_cons_zero, List.set_cons_succ]
                refine wpAnyH_take (i := 6) (v := ?_) rfl (by kernel_rfl) (by kernel_rfl) (by kernel_rfl) (fun _ _ _ h => h) (Or.inl ⟨by rfl, ?_⟩) (by assumption) ?_
                rotate_left
                · intro w hSw; (try dsimp only at hSw); have c1 : w.cell? ⟨nb, 1, none⟩ = some (.int .i64 G) := hSw.cell 1; have c2 : w.cell? ⟨nb, 2, none⟩ = some (.int .i64 Wh) := hSw.cell 2; clear hSw; go_simp; try with_reducible rfl
                try simp only [Act.put, List.setIfInBounds_toArray, List.set_cons_zero, List.set_cons_succ]
                refine wpAnyH_ready (rs := [3]) (by kernel_rfl) (by simp) ?_
                refine AllReadyH.cons rfl (fun K hK => ?_) AllReadyH.nil
                go_simp
                go_at_call 14
                refine (ts_del P2.out.ts (by omega) G).mono ?_
                rintro e Y1 ⟨rfl, ht, hc⟩
                have hbx := P2.out.boxt hHeld HNB.out hc
                refine hK.out _ _ hbx (fun hHeld => ?_)
                clear hK K hbx
                try simp only [Act.put, List.setIfInBounds_toArray, List.set_cons_zero, List.set_cons_succ]
                have P3 := Lib.hid (P2.out.t ht (.inl rfl) hc)
                have E3 := Lib.hid (P2.out.ext HB.out E2.out hc)
                clear ht hc
                refine wpAnyH_ready (rs := [7]) (by kernel_rfl) (by simp) ?_
                refine AllReadyH.cons rfl (fun K hK => ?_) AllReadyH.nil
                go_simp
                go_at_call 18
                refine (rdel_any P3.out.rt (by omega) G).mono ?_
                rintro e Y2 ⟨rfl, ⟨v4, hr, hn⟩, hc2⟩
                have hbx := boxx hHeld HNB.out hc2
                refine hK.out _ _ hbx (fun hHeld => ?_)
                clear hK K hbx
                try simp only [Act.put, List.setIfInBounds_toArray, List.set_cons_zero, List.set_cons_succ]
                have P4 := Lib.hid (P3.out.x hr hn hc2)
                have E4 := Lib.hid (P3.out.exx HB.out E3.out hc2)
                clear hr hn hc2 P3 E3 P2 E2
                have REL : Hid (∃ (k4 : Nat) (o4 : Option Nat) (v4 : Value) (S4 : List T3), k4 ≤ i + 1 ∧ S4.length ≤ i + 1 ∧ Up S4 ∧ Pr Y2 (b + 1) b o4 k4 xb v4 S4 S4 ∧ Ex w Y2) := Lib.hid ⟨k, o, v4, delS G S, by omega, by have := del_len G S; omega, up_del G UP.out, P4.out, E4.out⟩
                clear P4 E4
                generalize (S.any fun p => p.2.1 == G) = ba at *
                refine wpAnyH_ready (rs := [8]) (by kernel_rfl) (by simp) ?_
                refine AllReadyH.cons rfl (fun K hK => ?_) AllReadyH.nil
                go_simp
                refine hK.out _ _ hHeld (fun hHeld => ?_)
                clear hK K
                try simp only [Act.put, List.setIfInBounds_toArray, List.set_cons_zero, List.set_cons_succ]
                refine wpAnyH_done (by kernel_rfl) ?_ _
                clear hHeld
                rotate_left
                all_goals
                  go_wp2_with fail
                  go_meet
                  exact REL.out
      case rest =>
        clear P1 E1 B1 q0 q1 q2 HNB PR EX UP hr r1 r2
        obtain ⟨k4, o4, v4, S4, h1, h2, h3, h4, h5⟩ := hcut
        have P4 := Lib.hid h4
        have E4 := Lib.hid h5
        have UP4 := Lib.hid h3
        clear h3 h4 h5
        obtain ⟨n, hn⟩ : ∃ n, S4.length = n := ⟨_, rfl⟩
        have HN := Lib.hid hn
        have hn61 : n ≤ 61 := by omega
        obtain ⟨va, vc, rfl⟩ : ∃ va vc, v4 = .slice va n vc := by
          rcases P4.out.rt.row with ⟨rfl, rfl⟩ | ⟨g, off, cap, rfl, -⟩
          · exact ⟨none, 0, by rw [← hn]; rfl⟩
          · exact ⟨_, _, by rw [hn]⟩
        by_cases h0 : n = 0
        · obtain rfl : S4 = [] := List.eq_nil_of_length_eq_zero (by omega)
          subst h0
          go_wp2_with fail
          refine (ts_none P4.out.ts).mono ?_
          rintro e w' ⟨rfl, rfl⟩
          go_wp2_with fail
          refine (ts_all P4.out.ts (by simp)).mono ?_
          rintro e W5 ⟨u, rfl, hrow, hx⟩
          obtain ⟨ua, uc, rfl⟩ : ∃ ua uc, u = .slice ua 0 uc := by
            rcases row_shape hrow with ⟨h1, h2, -⟩ | ⟨g, cap, h1, -⟩
            · exact ⟨none, 0, h1⟩
            · exact ⟨_, _, h1⟩
          have P5 := Lib.hid (P4.out.ex hx)
          have E5 := Lib.hid (E4.out.trans hx)
          have xc : ∀ x : Out W5, x.w.cell? ⟨xb, 0, none⟩ = some (.slice va 0 vc) := fun x => (P5.out.rt.ex x.2).cell
          have KL : Hid (∀ x : Out W5, Calls Try.prog 13 #[.pointer (some ⟨b, 0, none⟩)] x.w fun e w' => e = .returned (.int .i64 0) ∧ x.w = w') := Lib.hid fun x => ts_len (P5.out.ts.ex x.2)
          clear hrow hx P4 E4
          go_upto_region 22 with fail
          refine wp_region_ex (by kernel_rfl) (by kernel_rfl) ?_
          try simp only [List.append]
          repeat (go_big_quiet_step ((go_at_call 13; (with_reducible exact quiet_eq (KL.out _)))))
          refine wpQuiet_nil ?_
          rintro w6 ⟨⟨wz, hw⟩, rfl⟩
          have P6 := Lib.hid (P5.out.ex hw)
          have E6 := Lib.hid (E5.out.trans hw)
          clear hw xc KL P5 E5
          go_wp2_with fail
          refine wp_loop_rounds 1 ?_; rw [rounds_succ]
          go_wp2_with fail
          go_roundw
          case rel =>
            exact LoopR.mk ⟨i + 1, k4, o4, _, [], by omega, by omega, by go_num, h1, h2, UP4.out, P6.out, E6.out⟩
          case measure => simp [intOf]; omega
        · have hn0 : (0 : Int) < (n : Int) := by omega
          have hd0 : decide (0 < n) = true := by simpa using (by omega : 0 < n)
          obtain ⟨x0, hx0⟩ : ∃ x0, (at3 S4 0).1 = x0 := ⟨_, rfl⟩
          have KN := Lib.hid (ts_next P4.out.ts (by omega))
          rw [hx0] at KN
          go_wp2_with fail
          refine KN.out.mono ?_
          rintro e w' ⟨rfl, rfl⟩
          go_wp2_with fail
          refine (ts_all P4.out.ts (by omega)).mono ?_
          rintro e W5 ⟨u, rfl, hrow, hx⟩
          obtain ⟨ug, uc, rfl, hul⟩ : ∃ ug uc, u = .slice (some ⟨ug, 0, none⟩) n uc ∧ ug < W5.heap.size := by
            rw [hn] at hrow
            rcases row_shape hrow with ⟨-, h2, -⟩ | ⟨g, cap, h1, h2, h3, -⟩
            · exact absurd h2 h0
            · exact ⟨_, _, h1, h3⟩
          obtain ⟨g, off, rfl, hgl, hrd⟩ : ∃ g off, va = some ⟨g, off, none⟩ ∧ g < wc.heap.size ∧ Rd wc g off S4 := by
            rcases P4.out.rt.row with ⟨-, rfl⟩ | ⟨g, off, cap, h1, -, -, h4, h5⟩
            · exact absurd hn.symm h0
            · simp only [Value.slice.injEq] at h1
              exact ⟨g, off, h1.1, h4, h5⟩
          have P5 := Lib.hid (P4.out.ex hx)
          have E5 := Lib.hid (E4.out.trans hx)
          have R5 := Lib.hid (hrd.ex hgl hx)
          have G5 : Hid (g < W5.heap.size ∧ ug < W5.heap.size) := Lib.hid ⟨Nat.lt_of_lt_of_le hgl hx.size, hul⟩
          have U5 : Hid (∀ q (h : q < S4.length), W5.cell? ⟨ug, q * 2, none⟩ = some (.int .i64 (at3 S4 q).1) ∧ W5.cell? ⟨ug, q * 2 + 1, none⟩ = some (.int .i64 (at3 S4 q).2.1)) := Lib.hid (fun q h => by
            rw [hn] at hrow
            obtain ⟨e1, e2⟩ := cells2_at S4 q h
            have em : S4[q] = at3 S4 q := by simp [at3, h]
            rw [em] at e1 e2
            exact ⟨by rw [World.ownsRow.cellAt hrow (q * 2) (by omega), e1], by rw [World.ownsRow.cellAt hrow (q * 2 + 1) (by omega), e2]⟩)
          have xc : ∀ x : Out W5, x.w.cell? ⟨xb, 0, none⟩ = some (.slice (some ⟨g, off, none⟩) n vc) := fun x => (P5.out.rt.ex x.2).cell
          have xd : ∀ x : Out W5, x.w.cell? ⟨g, off, none⟩ = some (.int .i64 x0) := fun x => by
            have := ((R5.out.ex G5.out.1 x.2) 0 (by omega)).1
            rw [hx0] at this
            rw [show off = off + 0 * 2 by omega]
            exact this
          have KL : Hid (∀ x : Out W5, Calls Try.prog 13 #[.pointer (some ⟨b, 0, none⟩)] x.w fun e w' => e = .returned (.int .i64 (n : Nat)) ∧ x.w = w') := Lib.hid fun x => by
            have := ts_len (P5.out.ts.ex x.2)
            rw [hn] at this
            exact this
          clear hrow hx P4 E4 hrd hgl hul hn hx0 KN
          go_upto_region 22 with fail
          refine wp_region_ex (by kernel_rfl) (by kernel_rfl) ?_
          try simp only [List.append]
          repeat (go_big_quiet_step ((go_at_call 13; (with_reducible exact quiet_eq (KL.out _)))))
          refine wpQuiet_nil ?_
          rintro w6 ⟨⟨wz, hw⟩, rfl⟩
          have P6 := Lib.hid (P5.out.ex hw)
          have E6 := Lib.hid (E5.out.trans hw)
          have R6 := Lib.hid (R5.out.ex G5.out.1 hw)
          have X6 := Lib.hid hw
          clear hw xc xd KL P5 E5 R5
          go_wp2_with fail
          go_loopw [10] (fun kv ws => ∃ q : Nat, q ≤ n ∧ kv = .int .i64 q ∧ Ex w6 ws) (fun kv _ => n - (intOf kv).toNat)
          case atStart => exact ⟨0, by omega, rfl, Ex.refl _⟩
          case round =>
            obtain ⟨q, hq, rfl, hx⟩ := hrel
            have HX := Lib.hid hx
            clear hx
            by_cases hqn : q < n
            · obtain ⟨x, hx⟩ : ∃ x, (at3 S4 q).1 = x := ⟨_, rfl⟩
              obtain ⟨y, hy⟩ : ∃ y, (at3 S4 q).2.1 = y := ⟨_, rfl⟩
              have hqs : q < S4.length := by have := HN.out; omega
              have c0 := (P6.out.rt.ex HX.out).cell
              have c1 := ((R6.out.ex (Nat.lt_of_lt_of_le G5.out.1 X6.out.size) HX.out) q hqs).1
              have c2 := ((R6.out.ex (Nat.lt_of_lt_of_le G5.out.1 X6.out.size) HX.out) q hqs).2
              have XX := X6.out.trans HX.out
              have c3 := (XX.cell (p := ⟨ug, q * 2, none⟩) G5.out.2).trans (U5.out q hqs).1
              have c4 := (XX.cell (p := ⟨ug, q * 2 + 1, none⟩) G5.out.2).trans (U5.out q hqs).2
              rw [hx] at c1 c3
              rw [hy] at c2 c4
              have i0 : (0 : Int) ≤ (q : Int) := by omega
              have i1 : (q : Int) < (n : Int) := by omega
              clear hx hy XX hqs
              go_wp2_with fail
              go_quiet (fail)
              go_wp2_with fail
              go_roundw
              case rel => exact ⟨q + 1, by omega, by go_num, HX.out.trans (Ex.drawn _ _)⟩
              case measure => simp [intOf]; omega
            · obtain rfl : q = n := by omega
              go_wp2_with fail
              go_roundw
              case rel =>
                exact LoopR.mk ⟨i + 1, k4, o4, _, S4, by omega, by omega, by go_num, h1, by have := HN.out; omega, UP4.out, P6.out.ex HX.out, E6.out.trans HX.out⟩
              case measure => simp [intOf]; omega
    · rcases Nat.lt_or_ge i len with hlt | hge
      · have hge : ¬ (i : Int) < 60 := by omega
        go_wp2_with fail
        refine (told_any wr).mono ?_
        rintro e w' ⟨rfl, hx⟩
        go_wp2_with fail
        go_ret
        exact ⟨rfl, EX.out.trans hx⟩
      · have hge' : ¬ (i : Int) < (len : Int) := by omega
        go_wp2_with fail
        refine (told_any wr).mono ?_
        rintro e w' ⟨rfl, hx⟩
        go_wp2_with fail
        go_ret
        exact ⟨rfl, EX.out.trans hx⟩

end Go.Proofs.Ytofdlbnlfeocoaa
