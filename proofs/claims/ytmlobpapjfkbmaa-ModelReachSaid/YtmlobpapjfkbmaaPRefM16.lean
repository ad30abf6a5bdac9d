/- The document's May. -/
import Derived.Test.YtmlobpapjfkbmaaK5
import Derived.Test.YtmlobpapjfkbmaaPRefK15
namespace Go.Proofs.Ytmlobpapjfkbmaa.C15
open Go.RowKit
set_option linter.unusedVariables false
set_option maxRecDepth 20000
set_option linter.unusedSimpArgs false

set_option maxRecDepth 20000 in
set_option maxHeartbeats 6400000 in
theorem rmay_any {w : World} {g : Int} {fv : Value} {F : List (List I4)} (h : RdP w fv F) :
    Calls Try.prog 13 #[.agg #[.int .i64 g, fv]] w fun e w' => e = .returned (.int .i64 (mayI g F)) ∧ Ex w w' := by
  obtain ⟨fa, cap, rfl⟩ := h.val
  have HP := Lib.hid h
  clear h
  obtain ⟨r, hr⟩ : ∃ r, mayI g F = r := ⟨_, rfl⟩
  rw [hr]
  have HR := Lib.hid hr
  clear hr
  by_cases c3 : g < 0
  · have e : r = 1 := by rw [← HR.out]; exact may_head (.inr (.inr (.inl c3)))
    subst e
    go_enter Try.func13, Try.ntmps13
    go_wp2_with fail
    go_ret
    exact ⟨rfl, Ex.made _ _⟩
  have d3 : 0 ≤ g := by omega
  by_cases c4 : 32 < g
  · have e : r = 1 := by rw [← HR.out]; exact may_head (.inr (.inr (.inr c4)))
    subst e
    clear c3
    go_enter Try.func13, Try.ntmps13
    go_wp2_with fail
    go_ret
    exact ⟨rfl, Ex.made _ _⟩
  have d4 : g ≤ 32 := by omega
  by_cases c1 : F.length < 1
  · have d1 : (F.length : Int) < 1 := by omega
    have e : r = 1 := by rw [← HR.out]; exact may_head (.inl c1)
    subst e
    clear c1 c3 c4
    go_enter Try.func13, Try.ntmps13
    go_wp2_with fail
    go_ret
    exact ⟨rfl, Ex.made _ _⟩
  have d1 : (1 : Int) ≤ (F.length : Int) := by omega
  by_cases c2 : 16 < F.length
  · have d2 : 16 < (F.length : Int) := by omega
    have e : r = 1 := by rw [← HR.out]; exact may_head (.inr (.inl c2))
    subst e
    clear c1 c2 c3 c4
    go_enter Try.func13, Try.ntmps13
    go_wp2_with fail
    go_ret
    exact ⟨rfl, Ex.made _ _⟩
  have d2 : (F.length : Int) ≤ 16 := by omega
  clear c1 c2 c3 c4
  go_enter Try.func13, Try.ntmps13
  go_upto_region 3 with fail
  have e0 := Ex.made w (.cells #[.int .i64 g, .slice fa F.length cap] 24)
  have b0 := Box.fresh w #[.int .i64 g, .slice fa F.length cap] 24
  have p0 := HP.out.ex e0
  obtain ⟨W, hW⟩ : ∃ W, W = w.alloc (.cells #[.int .i64 g, .slice fa F.length cap] 24) := ⟨_, rfl⟩
  rw [← hW] at e0 b0 p0 ⊢
  have E0 := Lib.hid e0
  have B0 := Lib.hid b0
  have P0 := Lib.hid p0
  clear hW e0 b0 p0
  have x0 : W.cell? ⟨w.heap.size, 0, none⟩ = some (.int .i64 g) := B0.out.cell 0
  have x1 : W.cell? ⟨w.heap.size, 1, none⟩ = some (.slice fa F.length cap) := B0.out.cell 1
  go_wp2_with fail
  go_loop [3] (fun iv => ∃ i : Nat, i ≤ F.length ∧ iv = .int .i64 (i : Int) ∧ ∀ (j : Nat) (l : List I4), j < i → F[j]? = some l → 1 ≤ l.length ∧ l.length ≤ 64) (fun iv => F.length - (intOf iv).toNat)
  case atStart => exact ⟨0, by omega, rfl, fun j _ hj => absurd hj (Nat.not_lt_zero j)⟩
  case round =>
    obtain ⟨i, hi, rfl, hok⟩ := hrel
    have OK := Lib.hid hok
    clear hok
    by_cases hlt : i < F.length
    · have hlt' : (i : Int) < (F.length : Int) := by omega
      obtain ⟨l, hll⟩ := get_some hlt
      obtain ⟨gb, ob, a', cap', rfl, -, hcap, hgb, hc, hl, hI⟩ := P0.out.at2 hll
      have HL := Lib.hid hlt
      have HLL := Lib.hid hll
      clear hlt hll hI
      by_cases s1 : l.length < 1
      · have s1' : (l.length : Int) < 1 := by omega
        have e : r = 1 := by rw [← HR.out]; exact may_len2 HLL.out (.inl s1)
        subst e
        clear s1
        go_wp2_with fail
        go_ret
        exact ⟨rfl, E0.out⟩
      by_cases s2 : 64 < l.length
      · have s1' : (1 : Int) ≤ (l.length : Int) := by omega
        have s2' : 64 < (l.length : Int) := by omega
        have e : r = 1 := by rw [← HR.out]; exact may_len2 HLL.out (.inr s2)
        subst e
        clear s1 s2
        go_wp2_with fail
        go_ret
        exact ⟨rfl, E0.out⟩
      have s1' : (1 : Int) ≤ (l.length : Int) := by omega
      have s2' : (l.length : Int) ≤ 64 := by omega
      have OK2 : Hid (∀ (j : Nat) (l : List I4), j < i + 1 → F[j]? = some l → 1 ≤ l.length ∧ l.length ≤ 64) := Lib.hid (by
        intro j l' h1 hj
        by_cases hji : j < i
        · exact OK.out j l' hji hj
        · obtain rfl : j = i := by omega
          rw [HLL.out] at hj
          cases hj
          omega)
      clear s1 s2
      go_wp2_with fail
      go_round
      case rel => exact ⟨i + 1, by have := HL.out; omega, by go_num, OK2.out⟩
      case measure => simp [intOf]; have := HL.out; omega
    · have hlt' : (F.length : Int) ≤ (i : Int) := by omega
      have SZ : Hid (∀ (j : Nat) (l : List I4), F[j]? = some l → 1 ≤ l.length ∧ l.length ≤ 64) := Lib.hid (fun j l hl => OK.out j l (by have := (get_is hl).1; omega) hl)
      have hb : mayI g F = outM (badF g F.length 1 F) := may_body2 (by omega) (by omega) d3 d4 SZ.out
      have HB := Lib.hid (HR.out.symm.trans hb)
      clear hlt hb OK
      go_wp2_with fail
      go_loopw [4, 5] (fun nv iv wr => ∃ (i : Nat) (k : Int), i ≤ F.length ∧ iv = .int .i64 (i : Int) ∧ nv = .int .i64 k ∧ 0 ≤ k ∧ k ≤ 64 * i ∧ Ex W wr ∧ badF g F.length (k + 1) (F.drop i) = badF g F.length 1 F) (fun _ iv _ => F.length - (intOf iv).toNat)
      case atStart => exact ⟨0, 0, by omega, rfl, rfl, by omega, by omega, Ex.refl _, rfl⟩
      case round =>
        obtain ⟨i, k, hi, rfl, rfl, hk1, hk2, hx, hbd⟩ := hrel
        have X := Lib.hid hx
        have BD := Lib.hid hbd
        clear hx hbd x0 x1
        by_cases hlt : i < F.length
        · have hlt' : (i : Int) < (F.length : Int) := by omega
          obtain ⟨l, hll⟩ := get_some hlt
          obtain ⟨gb, ob, a', cap', rfl, -, hcap, hgb, hc, hl, hI⟩ := (P0.out.ex X.out).at2 hll
          have HL := Lib.hid hlt
          have HLL := Lib.hid hll
          have HI := Lib.hid hI
          obtain ⟨hs1, hs2⟩ := SZ.out i l hll
          have BD2 : Hid (thenF g F.length (F.drop (i + 1)) (badL g F.length l.length (k + 1) l) = badF g F.length 1 F) := Lib.hid (by
            rw [← BD.out, badF_drop2 hll])
          have b0 := B0.out.ex X.out
          have x0 : wr.cell? ⟨w.heap.size, 0, none⟩ = some (.int .i64 g) := b0.cell 0
          have x1 : wr.cell? ⟨w.heap.size, 1, none⟩ = some (.slice (some ⟨gb, ob, none⟩) F.length cap) := b0.cell 1
          clear hlt hll hI BD b0
          go_upto_region 12 with fail
          have HCC := Lib.hid hc
          clear hc x0 x1
          go_wp2_with fail
          go_loopw [4, 6] (fun nv jv wr2 => ∃ (j : Nat) (k2 : Int), j ≤ l.length ∧ jv = .int .i64 (j : Int) ∧ nv = .int .i64 k2 ∧ 0 ≤ k2 ∧ k2 ≤ k + j ∧ Ex wr wr2 ∧ badL g F.length l.length (k2 + 1) (l.drop j) = badL g F.length l.length (k + 1) l) (fun _ jv _ => l.length - (intOf jv).toNat)
          case atStart => exact ⟨0, k, by omega, rfl, rfl, hk1, by omega, Ex.refl _, rfl⟩
          case round =>
            obtain ⟨j, k2, hj, rfl, rfl, hk3, hk4, hx, hbd⟩ := hrel
            have X2 := Lib.hid hx
            have BL := Lib.hid hbd
            clear hx hbd
            have b1 := B0.out.ex (X.out.trans X2.out)
            have x0 : wr.cell? ⟨w.heap.size, 0, none⟩ = some (.int .i64 g) := b1.cell 0
            have x1 : wr.cell? ⟨w.heap.size, 1, none⟩ = some (.slice (some ⟨gb, ob, none⟩) F.length cap) := b1.cell 1
            have hc := cell_later X2.out HCC.out
            by_cases hlt2 : j < l.length
            · have hlt2' : (j : Int) < (l.length : Int) := by omega
              obtain ⟨x, hx⟩ := get_some hlt2
              obtain ⟨ib, io, rfl, hib, z0, z1, z2, z3⟩ := (HI.out.ex X2.out).at2 hx
              have q1 : l.length ≤ cap' := hl
              have HX := Lib.hid hx
              have HJ2 := Lib.hid hlt2
              have W5 : Hid (∀ U, Calls Try.prog 33 #[.agg #[.int .i64 x.1, .int .i64 x.2.1, .int .i64 x.2.2.1, .int .i64 x.2.2.2], .int .i64 g, .int .i64 (F.length : Int), .int .i64 (l.length : Int)] U fun e w' => e = .returned (.int .i64 (wrongI g F.length l.length x)) ∧ Ex U w') := Lib.hid (fun U => rwrong_any U x _ _ _)
              have BL2 := Lib.hid (BL.out.symm.trans (badL_drop2 hx))
              go_upto_region 15 with fail
              have o0 : ∀ o : Out wr, o.w.cell? ⟨w.heap.size, 0, none⟩ = some (.int .i64 g) := fun o => cell_later o.2 x0
              have o1 : ∀ o : Out wr, o.w.cell? ⟨w.heap.size, 1, none⟩ = some (.slice (some ⟨gb, ob, none⟩) F.length cap) := fun o => cell_later o.2 x1
              have o2 : ∀ o : Out wr, o.w.cell? ⟨gb, ob + i, none⟩ = some (.slice (some ⟨ib, io, none⟩) l.length cap') := fun o => cell_later o.2 hc
              obtain ⟨y0, y1, y2, y3⟩ := x
              dsimp only at z0 z1 z2 z3
              have o3 : ∀ o : Out wr, o.w.cell? ⟨ib, io + j * 4, none⟩ = some (.int .i64 y0) := fun o => cell_later o.2 z0
              have o4 : ∀ o : Out wr, o.w.cell? ⟨ib, io + j * 4 + 1, none⟩ = some (.int .i64 y1) := fun o => cell_later o.2 z1
              have o5 : ∀ o : Out wr, o.w.cell? ⟨ib, io + j * 4 + 2, none⟩ = some (.int .i64 y2) := fun o => cell_later o.2 z2
              have o6 : ∀ o : Out wr, o.w.cell? ⟨ib, io + j * 4 + 3, none⟩ = some (.int .i64 y3) := fun o => cell_later o.2 z3
              clear hx b1 hlt2 BL x0 x1 hc z0 z1 z2 z3
              have WO : Hid (∀ o : Out wr, Calls Try.prog 33 #[.agg #[.int .i64 y0, .int .i64 y1, .int .i64 y2, .int .i64 y3], .int .i64 g, .int .i64 (F.length : Int), .int .i64 (l.length : Int)] o.w fun e w' => e = .returned (.int .i64 (wrongI g F.length l.length (y0, y1, y2, y3))) ∧ Ex o.w w') := Lib.hid (fun o => W5.out _)
              obtain ⟨rr, hrr⟩ : ∃ r, wrongI g F.length l.length (y0, y1, y2, y3) = r := ⟨_, rfl⟩
              rw [hrr] at WO
              have HRR := Lib.hid hrr
              clear hrr W5
              refine wp_region_ex (by kernel_rfl) (by kernel_rfl) ?_
              repeat (go_big_quiet_step ((go_at_call 33; exact quiet_ex (WO.out _))))
              refine wpQuiet_nil ?_
              rintro w5 ⟨⟨w6, hx5⟩, rfl⟩
              have X3 := Lib.hid (X2.out.trans hx5)
              clear hx5 o0 o1 o2 o3 o4 o5 o6
              by_cases hr1 : 0 ≤ rr
              · have e : r = 2 + k2 := by
                  rw [HB.out, ← BD2.out, BL2.out, HRR.out, if_pos hr1]
                  show k2 + 1 + 1 = 2 + k2
                  omega
                have HE := Lib.hid e
                clear e
                go_wp2_with fail
                go_ret
                exact ⟨ret_int HE.out.symm, E0.out.trans (X.out.trans X3.out)⟩
              · have BL3 : Hid (badL g F.length l.length (k2 + 1 + 1) (l.drop (j + 1)) = badL g F.length l.length (k + 1) l) := Lib.hid (by rw [BL2.out, HRR.out, if_neg hr1])
                have hr1' : rr < 0 := by omega
                clear hr1
                go_wp2_with fail
                go_roundw
                case rel => exact ⟨j + 1, k2 + 1, by have := HJ2.out; omega, by go_num, rfl, by omega, by omega, X3.out, BL3.out⟩
                case measure => simp [intOf]; have := HJ2.out; omega
            · have hj3 : (l.length : Int) ≤ (j : Int) := by omega
              have hfin : badF g F.length (k2 + 1) (F.drop (i + 1)) = badF g F.length 1 F := by
                rw [← BD2.out, ← BL.out, show l.drop j = [] from List.drop_eq_nil_of_le (by omega)]
                rfl
              have HFIN := Lib.hid hfin
              clear hfin hlt2 BL b1
              go_wp2_with fail
              go_roundw
              case rel => exact ⟨i + 1, k2, by have := HL.out; omega, by go_num, rfl, by omega, by omega, X.out.trans X2.out, HFIN.out⟩
              case measure => simp [intOf]; have := HL.out; omega
        · have hlt' : (F.length : Int) ≤ (i : Int) := by omega
          have b0 := B0.out.ex X.out
          have x1 : wr.cell? ⟨w.heap.size, 1, none⟩ = some (.slice fa F.length cap) := b0.cell 1
          have e : r = 0 := by
            rw [HB.out, ← BD.out, List.drop_eq_nil_of_le (by omega)]
            rfl
          subst e
          clear hlt b0
          go_wp2_with fail
          go_ret
          exact ⟨rfl, E0.out.trans X.out⟩

end Go.Proofs.Ytmlobpapjfkbmaa.C15
