/- TimerTimes. -/
import Derived.Test.YtofdlbnlfeocoaaTold13
import Derived.Test.YtofdlbnlfeocoaaTimes13P
namespace Go.Proofs.Ytofdlbnlfeocoaa
open Go.RowKit
set_option linter.unusedVariables false

theorem fb_ex {w wr w2 : World} (h : Ex w wr) (hz : w.heap.size ≤ wr.heap.size) (c : Chg (FB (w.heap.size + 1) w.heap.size) wr w2) : Ex w w2 :=
  Below.trans h (c.below hz (fun i hi => by rcases hi with rfl | hi <;> omega))

/-- When the i-th of the list wakes. -/
def wOf (zs : List Int) (i : Nat) : Int := (IntKind.u64.wrap (zs.getD i 0)).tmod 1000
theorem wOf_bd (zs : List Int) (i : Nat) : 0 ≤ wOf zs i ∧ wOf zs i < 1000 := umod_bd _ 1000 (by omega)

theorem row_val {w : World} {base n : Nat} {e : TypeId} {v : Value} {xs : List Value} {size : Nat} (h : w.ownsRow base e size v n xs) : ∃ a cap, v = .slice a n cap := by
  rcases row_shape h with ⟨h1, h2, -⟩ | ⟨g, cap, h1, -⟩
  · exact ⟨none, 0, by rw [h1, h2]⟩
  · exact ⟨_, cap, h1⟩

set_option maxRecDepth 20000 in
set_option maxHeartbeats 6400000 in
theorem times_walk (a : Option Addr) (len cap : Nat) (zs : List Int) (step : Int) (w : World) (hlen : len ≤ 60)
    (hb : len = 0 ∨ ∃ b off, a = some ⟨b, off, none⟩ ∧ b < w.heap.size ∧ ∀ i, i < len → w.cell? ⟨b, off + i, none⟩ = some (.int .i64 (zs.getD i 0))) :
    Calls Try.prog 3 #[.slice a len cap, .int .i64 step] w fun e w' => e = .returned (.bool true) ∧ Ex w w' := by
  obtain ⟨s', hs'⟩ : ∃ r, (IntKind.u64.wrap step).tmod 200 = r := ⟨_, rfl⟩
  obtain ⟨s1, s2⟩ := umod_bd step 200 (by omega)
  rw [hs'] at s1 s2
  have HB := Lib.hid hb
  clear hb
  have hlen' : (len : Int) ≤ 60 := by omega
  go_enter Try.func3, Try.ntmps3
  go_wp2_with fail
  refine (new_any w).mono ?_
  rintro e w1 ⟨rfl, h1, c1⟩
  have C1 := Lib.hid c1
  have H1 := Lib.hid h1
  clear h1 c1
  go_wp2_with fail
  go_loopw [6] (fun iv wr => ∃ (i : Nat) (m : List T3) (u : Value), i ≤ len ∧ iv = .int .i64 i ∧ m.length = i ∧ InM (wOf zs) i m ∧ Sv wr (w.heap.size + 1) w.heap.size i u m ∧ (∀ g, u.ownBlock = some g → g < wr.heap.size) ∧ Ex w wr) (fun iv _ => len - (intOf iv).toNat)
  case atStart => exact ⟨0, [], _, by omega, rfl, rfl, InM.nil _, H1.out, (fun g hg => by cases hg), C1.out⟩
  case round =>
    obtain ⟨i, m, u, hi, rfl, hm, hin, hs, hu, hx⟩ := hrel
    have HM := Lib.hid hm
    have HIN := Lib.hid hin
    have HS := Lib.hid hs
    have HU := Lib.hid hu
    have HX := Lib.hid hx
    clear hm hin hs hu hx H1 C1
    by_cases hlt : i < len
    · have hlt' : (i : Int) < (len : Int) := by omega
      obtain ⟨b, off, rfl, hbb, hcell⟩ := HB.out.resolve_left (by omega)
      obtain ⟨z, hzz⟩ : ∃ z, zs.getD i 0 = z := ⟨_, rfl⟩
      have hc : wr.cell? ⟨b, off + i, none⟩ = some (.int .i64 z) := by
        rw [← hzz, ← hcell i hlt]
        exact HX.out.cell (p := ⟨b, off + i, none⟩) hbb
      obtain ⟨t, ht⟩ : ∃ m, (IntKind.u64.wrap z).tmod 1000 = m := ⟨_, rfl⟩
      obtain ⟨t1, t2⟩ := umod_bd z 1000 (by omega)
      rw [ht] at t1 t2
      have HT : Hid (wOf zs i = t) := Lib.hid (by unfold wOf; rw [hzz]; exact ht)
      clear hzz hcell
      go_wp2_with fail
      refine (tadd_any HS.out t i i HM.out (by omega) (by omega)).mono ?_
      rintro e w2 ⟨rfl, ⟨g2, cap2, h2, hg2⟩, c2⟩
      have H2 := Lib.hid h2
      have G2 := Lib.hid hg2
      have C2 := Lib.hid c2
      clear h2 hg2 c2
      go_wp2_with fail
      go_roundw
      case rel =>
        refine ⟨i + 1, upL (i + 1) (m ++ [(t, (i : Int), (i : Int) + 1)]) i, .slice (some ⟨g2, 0, none⟩) (i + 1) cap2, by omega, by go_num, add_length i m _ HM.out, ?_, ?_, ?_, fb_ex HX.out HX.out.size C2.out⟩
        · have := HIN.out.add
          rw [HM.out, HT.out] at this
          exact this
        · have := H2.out
          rwa [show ((i + 1 : Nat) : Int) = (i : Int) + 1 by omega]
        · intro g hg; cases hg; exact G2.out
      case measure => simp [intOf]; omega
    · obtain rfl : i = len := by omega
      have e1 : ¬ (i : Int) < (i : Int) := by omega
      go_wp2_with fail
      have W1 : Hid (∀ p ∈ m, (0 : Int) - (1 + s') < p.1 ∧ (-1 : Int) < p.1) := Lib.hid (by
        intro p hp
        obtain ⟨j, hj, rfl⟩ := HIN.out.mem p hp
        have := wOf_bd zs j
        dsimp only
        omega)
      obtain ⟨s, hs⟩ : ∃ s, 1 + s' = s := ⟨_, rfl⟩
      rw [hs] at W1 ⊢
      have b1 : 1 ≤ s := by omega
      have b2 : s ≤ 200 := by omega
      clear hs s1 s2 hs' e1
      go_loopw [8, 9, 10, 11] (fun cv lv av nv wr => ∃ (c : Nat) (now was last : Int) (m : List T3) (u : Value), cv = .int .i64 c ∧ lv = .int .i64 last ∧ av = .int .i64 was ∧ nv = .int .i64 now ∧ 0 ≤ now ∧ now ≤ 1400 ∧ c + m.length = i ∧ InM (wOf zs) i m ∧ Sv wr (w.heap.size + 1) w.heap.size i u m ∧ (∀ g, u.ownBlock = some g → g < wr.heap.size) ∧ Ex w wr ∧ (∀ p ∈ m, now - s < p.1 ∧ was < p.1)) (fun _ _ _ nv _ => (1200 - intOf nv).toNat)
      case atStart => exact ⟨0, 0, -1, -1, m, u, rfl, rfl, rfl, rfl, by omega, by omega, by have := HM.out; omega, HIN.out, HS.out, HU.out, HX.out, W1.out⟩
      case round =>
        clear HM HIN HS HU HX W1
        clear u m
        obtain ⟨c, now, was, last, m, u, rfl, rfl, rfl, rfl, n1, n2, hm, hin, hs, hu, hx, hw⟩ := hrel
        have HM := Lib.hid hm
        have HIN := Lib.hid hin
        have HS := Lib.hid hs
        have HU := Lib.hid hu
        have HX := Lib.hid hx
        have HW := Lib.hid hw
        clear hin hs hu hx hw
        by_cases hlt : now < 1200
        · obtain ⟨d1, d2, d3, d4, d5⟩ := HIN.out.due now (now - s) was (m.length + 1) (by omega) (fun p hp => (HW.out p hp).1) (fun p hp => (HW.out p hp).2)
          have D1 := Lib.hid d1
          have D2 := Lib.hid d2
          have D3 := Lib.hid d3
          have D4 := Lib.hid d4
          have D5 := Lib.hid d5
          clear d1 d2 d3 d4 d5
          go_wp2_with fail
          refine (due_any HS.out HU.out now (by omega)).mono ?_
          rintro e w2 ⟨gv, rfl, ⟨⟨u2, h2, hg2⟩, hr, c2⟩⟩
          rw [dueT_is _ _ _ HIN.out.heap] at h2 hr
          generalize (dueT (m.length + 1) now m).1 = D at *
          generalize (dueT (m.length + 1) now m).2 = R at *
          dsimp only at h2 hr
          rw [List.length_map] at hr
          have H2 := Lib.hid h2
          have G2 := Lib.hid hg2
          have R2 := Lib.hid hr
          have X2 := Lib.hid (fb_ex HX.out HX.out.size c2)
          clear h2 hg2 hr c2 HS HU HX
          obtain ⟨ga, gc, rfl⟩ := row_val R2.out
          have hd : D.length ≤ 60 := by have := D3.out; omega
          have hd' : ((D.length : Nat) : Int) ≤ 60 := by omega
          have hd2 : c + D.length ≤ 60 := by have := D3.out; omega
          go_wp2_with fail
          go_loopw [8, 9, 10, 13] (fun cv lv av kv wr => ∃ (k : Nat), cv = .int .i64 ((c + k : Nat) : Int) ∧ lv = .int .i64 (lastK D last k) ∧ av = .int .i64 (wasK D was k) ∧ kv = .int .i64 k ∧ k ≤ D.length ∧ Ex w2 wr) (fun _ _ _ kv _ => D.length - (intOf kv).toNat)
          case atStart => exact ⟨0, rfl, rfl, rfl, rfl, by omega, Ex.refl _⟩
          case round =>
            obtain ⟨k, rfl, rfl, rfl, rfl, hk, hx⟩ := hrel
            have HX := Lib.hid hx
            clear hx
            by_cases hkl : k < D.length
            · have hkl' : (k : Int) < ((D.length : Nat) : Int) := by omega
              obtain ⟨j, hj, e1, e2, e3, e4⟩ := D2.out.one k hkl
              obtain ⟨q1, q2⟩ := D2.out.seq k was last hkl rfl
              obtain ⟨g, rfl⟩ : ∃ g, ga = some ⟨g, 0, none⟩ := by
                rcases row_shape R2.out with ⟨h1, h2, -⟩ | ⟨g, cap, h1, -⟩
                · omega
                · simp only [Value.slice.injEq] at h1
                  exact ⟨g, h1.1⟩
              have hrow := row_chg (F := fun _ => False) R2.out (HX.out.chg _) (fun _ _ h => h)
              have hcg : wr.cell? ⟨g, k, none⟩ = some (.int .i64 (j : Int)) := by
                rw [World.ownsRow.cellAt hrow k (by omega), ← e1]
                simp [intsZ, at3, hkl]
              obtain ⟨b, off, rfl, hbb, hcell⟩ := HB.out.resolve_left (by omega)
              obtain ⟨z, hzz⟩ : ∃ z, zs.getD j 0 = z := ⟨_, rfl⟩
              have hc : wr.cell? ⟨b, off + j, none⟩ = some (.int .i64 z) := by
                rw [← hzz, ← hcell j hj]
                exact (X2.out.trans HX.out).cell (p := ⟨b, off + j, none⟩) hbb
              obtain ⟨t, ht⟩ : ∃ m, (IntKind.u64.wrap z).tmod 1000 = m := ⟨_, rfl⟩
              have e5 : wOf zs j = t := by unfold wOf; rw [hzz]; exact ht
              rw [e2, e5] at q1 q2
              rw [e5] at e3 e4
              rw [e1] at q2
              obtain ⟨t1, t2⟩ := umod_bd z 1000 (by omega)
              rw [ht] at t1 t2
              obtain ⟨wk, hwk⟩ : ∃ x, wasK D was k = x := ⟨_, rfl⟩
              obtain ⟨lk, hlk⟩ : ∃ x, lastK D last k = x := ⟨_, rfl⟩
              rw [hwk] at q1 q2 ⊢
              rw [hlk] at q2 ⊢
              have EW : Hid (wasK D was (k + 1) = t) := Lib.hid (by unfold wasK; rw [if_neg (by omega), Nat.add_sub_cancel, e2, e5])
              have EL : Hid (lastK D last (k + 1) = (j : Int)) := Lib.hid (by unfold lastK; rw [if_neg (by omega), Nat.add_sub_cancel, e1])
              have hj' : (j : Int) < (i : Int) := by omega
              have hcap : (D.length : Int) ≤ (gc : Int) := by
                rcases row_shape hrow with ⟨h1, -, -⟩ | ⟨g, cap', h1, -, -, h4, -⟩
                · cases h1
                · simp only [Value.slice.injEq] at h1
                  omega
              clear hcell hzz e1 e2 e5 hwk hlk hrow
              by_cases hE : t = wk
              · have l1 := q2 hE
                have k1 : (t == wk) = true := by simpa using hE
                have k2 : decide (t < wk) = false := by simp; omega
                clear hE q2
                go_wp2_with fail
                go_quiet (fail)
                go_wp2_with fail
                go_roundw
                case rel => exact ⟨k + 1, by go_num, by rw [EL.out], by rw [EW.out], by go_num, by omega, HX.out.trans (Ex.drawn _ _)⟩
                case measure => simp [intOf]; omega
              · have k1 : (t == wk) = false := by simpa using hE
                have k2 : decide (t < wk) = false := by simp; omega
                clear hE q2
                go_wp2_with fail
                go_quiet (fail)
                go_wp2_with fail
                go_roundw
                case rel => exact ⟨k + 1, by go_num, by rw [EL.out], by rw [EW.out], by go_num, by omega, HX.out.trans (Ex.drawn _ _)⟩
                case measure => simp [intOf]; omega
            · obtain rfl : k = D.length := by omega
              have e1 : ¬ ((D.length : Nat) : Int) < ((D.length : Nat) : Int) := by omega
              go_wp2_with fail
              go_roundw
              case rel =>
                refine ⟨c + D.length, now + s, wasK D was D.length, lastK D last D.length, R, u2, rfl, rfl, rfl, by go_num, by omega, by omega, ?_, D1.out, H2.out.chg (F := fun _ => False) (HX.out.chg _) (fun h => h) (fun _ _ h => h), fun g hg => Nat.lt_of_lt_of_le (G2.out g hg) HX.out.size, X2.out.trans HX.out, ?_⟩
                · have := D3.out; omega
                · intro p hp
                  have := D4.out p hp
                  exact ⟨by omega, D5.out p hp⟩
              case measure => simp [intOf]; omega
        · have hm0 : m = [] := by
            cases m with
            | nil => rfl
            | cons p m =>
              have h1 := (HW.out p (by simp)).1
              obtain ⟨j, hj, e⟩ := HIN.out.mem p (by simp)
              have := wOf_bd zs j
              rw [e] at h1
              dsimp only at h1
              omega
          subst hm0
          obtain ⟨ua, uc, rfl⟩ := row_val HS.out.row
          obtain rfl : c = i := by simpa using hm
          have K1 := Lib.hid (next_none HS.out)
          have hk1 : ((c : Int) == (c : Int)) = true := by simp
          clear HM HW hm
          go_wp2_with fail
          refine K1.out.mono ?_
          rintro e w' ⟨rfl, rfl⟩
          go_wp2_with fail
          refine (told_any wr).mono ?_
          rintro e w3 ⟨rfl, h3⟩
          have X3 := Lib.hid h3
          clear h3
          go_wp2_with fail
          refine (tlen_any (HS.out.ex X3.out)).mono ?_
          rintro e w' ⟨rfl, rfl⟩
          go_wp2_with fail
          go_ret
          exact ⟨rfl, HX.out.trans X3.out⟩

set_option maxRecDepth 20000 in
set_option maxHeartbeats 1600000 in
theorem times_great (a : Option Addr) (len cap : Nat) (step : Int) (w : World) (hlen : ¬ len ≤ 60) :
    Calls Try.prog 3 #[.slice a len cap, .int .i64 step] w fun e w' => e = .returned (.bool true) ∧ Ex w w' := by
  have hlen' : 60 < (len : Int) := by omega
  go_enter Try.func3, Try.ntmps3
  go_wp2_with fail
  refine (told_any w).mono ?_
  rintro e w3 ⟨rfl, h3⟩
  have X3 := Lib.hid h3
  clear h3
  go_wp2_with fail
  go_ret
  exact ⟨rfl, X3.out⟩

theorem walk_TimerTimes (a : Option Addr) (len cap : Nat) (zs : List Int) (step : Int) (w : World)
    (h : (a = none ∧ len = 0 ∧ cap = 0 ∧ zs = []) ∨ ∃ x, a = some x ∧ len ≤ cap ∧ cap ≤ maxLen ∧ zs.length = cap ∧ (∀ i, i < zs.length → w.cell? (x.add i) = some (.int .i64 (zs.getD i 0))) ∧ ∀ n ∈ zs, (Lit.int .i64 n).wf = true) :
    Calls Try.prog 3 #[.slice a len cap, .int .i64 step] w fun e w' => e = .returned (.bool true) ∧ Below w.heap.size w w' := by
  by_cases hg : len ≤ 60
  case neg => exact times_great a len cap step w hg
  refine times_walk a len cap zs step w hg ?_
  rcases h with ⟨rfl, rfl, rfl, rfl⟩ | ⟨⟨b, off, spot⟩, rfl, hl, hm, hz, hcell, _⟩
  · exact .inl rfl
  · by_cases h0 : len = 0
    · exact .inl h0
    · have hc := hcell 0 (by omega)
      have hspot : spot = none := by simpa [Addr.add] using World.cell?_spot hc
      subst hspot
      refine .inr ⟨b, off, rfl, ?_, ?_⟩
      · simp only [World.cell?, Addr.add, if_pos] at hc
        by_cases hlt : b < w.heap.size
        · exact hlt
        · rw [Array.getElem?_eq_none (by omega)] at hc
          cases hc
      · intro i hi
        rw [← hcell i (by omega)]
        by_cases hi0 : i = 0
        · subst hi0; simp [Addr.add]
        · simp [Addr.add, hi0]

end Go.Proofs.Ytofdlbnlfeocoaa
