/- ModelGlobals: a global has what was put there last; nothing else turns it, and what it has can be reached. -/
import Derived.Test.YtmlobpapjfkbmaaPGlobalsP16
import Derived.Laws.Slices
namespace Go.Proofs.Ytmlobpapjfkbmaa
open Go.RowKit
set_option linter.unusedVariables false
set_option maxRecDepth 20000
set_option linter.unusedSimpArgs false

theorem RowJ.cut {w : World} {B g n cap : Nat} {l M : List C15.I4} (h : RowJ w B (.slice (some ⟨g, 0, none⟩) n cap) (l ++ M)) {k : Nat} (hk : l.length = k) : RowJ w B (.slice (some ⟨g, 0, none⟩) k cap) l := by
  have hlen := cells4_len l
  obtain ⟨h1, h2⟩ := h
  rcases h2 with ⟨h2, -⟩ | ⟨g', cap', cur, e, h3, h4, h5, h6, h7, h8⟩
  · cases h2
  injection e with e1 e2 e3
  cases e1
  subst e3
  subst hk
  have hl : (l ++ M).length = l.length + M.length := List.length_append
  refine ⟨hlen, .inr ⟨g, cap, cur, rfl, h3, h4, by omega, h6, h7, ?_⟩⟩
  rw [cells4_append] at h8
  have : (cur.toList.take ((l ++ M).length * 4)).take (l.length * 4) = cur.toList.take (l.length * 4) := by
    rw [List.take_take, Nat.min_eq_left (by rw [hl]; omega)]
  rw [← this, h8, List.take_append_of_le_length (by rw [hlen]; exact Nat.le_refl _), ← hlen, List.take_length]
theorem RowJ.cell {w : World} {B : Nat} {g n cap : Nat} {l : List C15.I4} (h : RowJ w B (.slice (some ⟨g, 0, none⟩) n cap) l) {i : Nat} {x : C15.I4} (hx : l[i]? = some x) : w.cell? ⟨g, i * 4 + 1, none⟩ = some (.int .i64 x.2.1) := by
  obtain ⟨hi, e⟩ := List.getElem?_eq_some_iff.1 hx
  have := (C15.cells4_at l i hi).2.1
  rw [e] at this
  have h2 := World.ownsRow.cells h rfl (i * 4 + 1) _ this
  rw [Addr.add_lit] at h2
  simpa using h2
theorem cells_W (W : List Nat) (i v : Nat) : (S12.ints W).toArray.setIfInBounds i (.int .i64 (v : Nat)) = (S12.ints (W.set i v)).toArray := by
  simp [S12.ints, List.map_set]
theorem W_cell {w : World} {b : Nat} {W : List Nat} (h : Box w b (S12.ints W).toArray 3) {i x : Nat} (hi : i < W.length) (hx : W.getD i 0 = x) : w.cell? ⟨b, i, none⟩ = some (.int .i64 (x : Nat)) := by
  rw [h.cell i]
  subst hx
  simp [S12.ints, hi]

/-- What the walk asks of the numbers. -/
def glOf (k : Nat) (L : List Int) : List Nat := L.map fun x => ((IntKind.u64.wrap x).tmod (k : Int)).toNat
theorem glOf_lt {k : Nat} (hk : 0 < k) (L : List Int) : ∀ x ∈ glOf k L, x < k := by
  intro x hx
  obtain ⟨y, -, rfl⟩ := List.mem_map.1 hx
  obtain ⟨h0, h1⟩ := utmod y (k : Int) (by omega)
  omega

set_option maxRecDepth 10000 in
set_option maxHeartbeats 51200000 in
theorem globals_walk (v : Value) (L : List Int) (m : Int) (j : Nat) (w : World) (hv : T13.RowI w v L) (hj : (IntKind.u64.wrap m).tmod 8 = (j : Int)) (hj2 : j < 8) :
    Calls Try.prog 5 #[v, .int .i64 m] w fun e w' => e = .returned (.bool true) ∧ Below w.heap.size w w' := by
  have e0 : IntKind.i64.wrap (j : Int) = (j : Int) := by rw [IntKind.wrap_i64]; omega
  have e1 : IntKind.i64.wrap (1 + (j : Int)) = ((j + 1 : Nat) : Int) := by rw [IntKind.wrap_i64]; omega
  obtain ⟨k, hk⟩ : ∃ k, j + 1 = k := ⟨_, rfl⟩
  rw [hk] at e1
  have hk1 : 1 ≤ k ∧ k ≤ 8 := by omega
  have ek : IntKind.u64.wrap (k : Int) = (k : Int) := by simp [IntKind.wrap, IntKind.bits, IntKind.signed]; omega
  have HJ := Lib.hid hj
  obtain ⟨N, hN⟩ : ∃ N, L.length = N := ⟨_, rfl⟩
  obtain ⟨va, vc, rfl, hc⟩ := hv
  rw [hN] at hc ⊢
  have HC := Lib.hid hc
  have HN := Lib.hid hN
  have HK := Lib.hid hk
  clear hc hN hk
  by_cases hbig : 55 < N
  · have hb : (55 : Int) < (N : Int) := by omega
    go_enter Try.func5, Try.ntmps5
    go_wp2_with fail
    refine (told_any w).mono ?_
    rintro e w1 ⟨rfl, x1⟩
    go_wp2_with fail
    go_ret
    exact ⟨rfl, x1⟩
  · have hb : ¬ (55 : Int) < (N : Int) := by omega
    obtain ⟨gl, hgl⟩ : ∃ gl, glOf k L = gl := ⟨_, rfl⟩
    have HGL := Lib.hid (hgl ▸ glOf_lt (k := k) (by omega) L)
    have HMAY : Hid (∀ q, q ≤ 30 → C15.mayI (k : Int) [fG gl q] = 0) := Lib.hid (fun q hq => may_G (by omega) hk1.2 HGL.out hq)
    have HG : Hid (glOf k L = gl) := Lib.hid hgl
    clear hgl
    go_enter Try.func5, Try.ntmps5
    go_wp2_with fail
    go_loopw [6, 7] (fun v i wr => ∃ j : Nat, j ≤ N ∧ j ≤ 30 ∧ i = .int .i64 j ∧ RowJ wr w.heap.size v (pG gl j) ∧ Ex w wr) (fun _ i _ => N - (intOf i).toNat)
    case atStart => exact ⟨0, Nat.zero_le _, Nat.zero_le _, rfl, RowJ.nil _ _, Ex.refl _⟩
    case round =>
      obtain ⟨i, hi, hi30, rfl, hown, hx⟩ := hrel
      by_cases hlt : i < N
      · obtain ⟨ab, ao, rfl, alt, acell⟩ := HC.out i hlt
        obtain ⟨x, hxx⟩ : ∃ x, L.getD i 0 = x := ⟨_, rfl⟩
        rw [hxx] at acell
        have acell2 : wr.cell? ⟨ab, ao + i, none⟩ = some (.int .i64 x) := (hx.cell (p := ⟨ab, ao + i, none⟩) alt).trans acell
        obtain ⟨g, hg⟩ : ∃ g : Nat, (IntKind.u64.wrap x).tmod (k : Int) = (g : Int) := ⟨((IntKind.u64.wrap x).tmod (k : Int)).toNat, by have := utmod x (k : Int) (by omega); omega⟩
        have hgk : g < k := by have := utmod x (k : Int) (by omega); omega
        have hgl2 : Hid (gl.getD i 0 = g) := Lib.hid (by
          rw [← HG.out, List.getD_eq_getElem?_getD]
          have hil : i < L.length := by rw [HN.out]; exact hlt
          have : L[i]? = some x := by
            rw [List.getElem?_eq_getElem hil]
            rw [List.getD_eq_getElem?_getD, List.getElem?_eq_getElem hil] at hxx
            exact congrArg some hxx
          simp only [glOf, List.getElem?_map, this, Option.map_some, Option.getD_some]
          omega)
        have e3 : IntKind.i64.wrap (g : Int) = (g : Int) := by rw [IntKind.wrap_i64]; omega
        have q1 : (i : Int) < (N : Int) := by omega
        have q0 : (0 : Int) ≤ (i : Int) := by omega
        have hkz : ((k : Int) == 0) = false := by simp; omega
        have bx := Box.fresh wr #[.int .i64 1, .int .i64 1, .int .i64 0, .int .i64 0, .int .i64 7, .int .i64 (g : Int), .int .i64 1, .int .i64 0] 40
        have x1 := Ex.made wr (.cells #[.int .i64 1, .int .i64 1, .int .i64 0, .int .i64 0, .int .i64 7, .int .i64 (g : Int), .int .i64 1, .int .i64 0] 40)
        have HB := Lib.hid bx
        have HO := Lib.hid (hown.ex x1)
        have HX := Lib.hid (hx.trans x1)
        have hln : (pG gl i).length + 2 ≤ 100000 := by rw [pG_len]; omega
        have hM : Hid (pG gl i ++ [(1, 1, 0, 0), (7, (g : Int), 1, 0)] = pG gl (i + 1)) := Lib.hid (by rw [pG, hgl2.out])
        obtain ⟨N1, hN1⟩ : ∃ N, 2 * (i + 1) = N := ⟨_, rfl⟩
        have hN2 : (pG gl (i + 1)).length = N1 := by rw [pG_len]; exact hN1
        clear bx x1 hown hx hxx acell
        go_wp2_with (at_builtin; refine wpList_append_insts _ rfl (.tmp 43) (.tmp 47) rfl (B := w.heap.size) (l := pG gl i) (M := [(1, 1, 0, 0), (7, (g : Int), 1, 0)]) rfl HO.out HX.out.size rfl HB.out rfl rfl (by decide) hln (L := pG gl (i + 1)) hM.out hN2 ?_)
        intro rb cap w3 h1 h2 h3 h4 h5
        have H1 := Lib.hid h1
        have H2 := Lib.hid (ex_grownJ HO.out HX.out HX.out.size h2)
        have hcap : N1 ≤ cap := by
          rcases row_shape h1 with ⟨hq, -⟩ | ⟨g', cap', hq, -, -, h7, -⟩
          · cases hq
          · injection hq with _ _ e; omega
        clear h1 h2 h3 h4 h5 HO HX HB hN2
        by_cases h60 : 60 < N1
        · have h61 : (60 : Int) < (N1 : Int) := by omega
          have hcap2 : (60 : Int) ≤ (cap : Int) := by omega
          have hi29 : i = 30 := by omega
          have H3 : Hid (RowJ w3 w.heap.size (.slice (some ⟨rb, 0, none⟩) 60 cap) (pG gl 30)) := Lib.hid (by
            have := H1.out
            rw [hi29, pG] at this
            exact this.cut (by rw [pG_len]))
          clear H1
          have bx := Box.fresh w3 #[.int .i64 0, .int .i64 0, .int .i64 0, .int .i64 0] 40
          have x1 := Ex.made w3 (.cells #[.int .i64 0, .int .i64 0, .int .i64 0, .int .i64 0] 40)
          have HB := Lib.hid bx
          have HO := Lib.hid (H3.out.ex x1)
          have HX := Lib.hid (Ex.trans H2.out x1)
          have hln : (pG gl 30).length + 1 ≤ 100000 := by rw [pG_len]; omega
          obtain ⟨q, hqq⟩ : ∃ q, 30 = q := ⟨_, rfl⟩
          have hq30 : q ≤ 30 := by omega
          rw [hqq] at HO hln
          clear bx x1 H3 H2 hqq
          go_wp2_with (at_builtin; refine wpList_append_insts _ rfl (.tmp 54) (.tmp 56) rfl (B := w.heap.size) (l := pG gl q) (M := [(0, 0, 0, 0)]) rfl HO.out HX.out.size rfl HB.out rfl rfl (by decide) hln (L := fG gl q) rfl (fG_len gl q) ?_)
          intro rb cap w4 h1 h2 h3 h4 h5
          have H4 := ex_grownJ HO.out HX.out HX.out.size h2
          obtain ⟨n2, hn2⟩ : ∃ n, 2 * q + 1 = n := ⟨_, rfl⟩
          rw [hn2] at h1 ⊢
          have b5 := Box.fresh w4 #[.slice (some ⟨rb, 0, none⟩) n2 cap] 42
          have x5 := Ex.made w4 (.cells #[.slice (some ⟨rb, 0, none⟩) n2 cap] 42)
          clear h2 h3 h4 HO HX HB hln
          go_wp2_with fail
          generalize w4.alloc (.cells #[.slice (some ⟨rb, 0, none⟩) n2 cap] 42) = W5 at *
          have hp : C15.RdP W5 (.slice (some ⟨w4.heap.size, 0, none⟩) 1 1) [fG gl q] := rdP_box (F := [fG gl q]) (cap := 1) (lv := fun _ => .slice (some ⟨rb, 0, none⟩) n2 cap) b5 (by simp) (fun p hp => by
            obtain rfl : p = 0 := by have : p < 1 := hp; omega
            exact (h1.ex x5).rd)
          have HX5 := Lib.hid (Ex.trans H4 x5)
          have HB5 : Hid (w.heap.size ≤ W5.heap.size) := Lib.hid HX5.out.size
          have HRB : Hid (rb < W5.heap.size) := Lib.hid (by have := x5.size; omega)
          have HRow := Lib.hid (h1.ex x5)
          refine (build_any hp (Ex.refl _) (HMAY.out q hq30)).mono ?_
          rintro e w6 ⟨mb, rfl, h6, x6⟩
          have HM6 := Lib.hid h6
          have HX6 := Lib.hid (HX5.out.trans x6)
          have HR6 := Lib.hid (HRow.out.ex x6)
          have hms := make_ints w6 k (by omega)
          clear hp h1 h5 H4 b5 x5 h6 x6 HX5 HRow
          go_wp2_with fail
          have b7 := Box.fresh w6 (S12.ints (List.replicate k 0)).toArray 3
          have x7 := Ex.made w6 (.cells (S12.ints (List.replicate k 0)).toArray 3)
          have hs7 : w6.heap.size < (w6.alloc (.cells (S12.ints (List.replicate k 0)).toArray 3)).heap.size := by simp
          generalize w6.alloc (.cells (S12.ints (List.replicate k 0)).toArray 3) = W7 at *
          obtain ⟨mk, hmk⟩ : ∃ b, w6.heap.size = b := ⟨_, rfl⟩
          rw [hmk] at b7 hs7 ⊢
          have HM7 := Lib.hid (HM6.out.own x7 (fun i => i = mk) (fun i hi => .inr (by subst hi; omega)))
          have HX7 := Lib.hid (HX6.out.trans x7)
          have HB7 := Lib.hid b7
          have HR7 := Lib.hid (HR6.out.ex x7)
          have HMK : Hid (w.heap.size ≤ mk ∧ rb ≠ mk) := Lib.hid (by have := HX6.out.size; have := HRB.out; have := HM6.out.bs; omega)
          clear b7 x7 hs7 hmk hms HM6 HX6 HR6
          go_loopw [11, 12] (fun la qv W => ∃ i : Nat, i ≤ 2 * q + 1 ∧ qv = .int .i64 i ∧ la = .int .i64 ((if i = 2 * q + 1 then q else (i + 1) / 2 : Nat) : Int) ∧ Mo W5.heap.size (fun i => i = mk) W mb [fG gl q] k i (gS k gl q i) ∧ Ex w W ∧ RowJ W w.heap.size (.slice (some ⟨rb, 0, none⟩) n2 cap) (fG gl q) ∧ Box W mk (S12.ints (wG k gl (i / 2))).toArray 3) (fun _ qv _ => 2 * q + 1 - (intOf qv).toNat)
          case atStart => exact ⟨0, Nat.zero_le _, rfl, by rw [if_neg (by omega)]; rfl, by rw [gS_zero]; exact HM7.out, HX7.out, HR7.out, HB7.out⟩
          case round =>
            clear HM7 HX7 HB7 HR7
            obtain ⟨i, hi, rfl, rfl, hm, hx, hr, hbx⟩ := hrel
            have HM := Lib.hid hm
            have HX := Lib.hid hx
            have HR := Lib.hid hr
            have HB := Lib.hid hbx
            clear hm hx hr hbx
            by_cases hlt2 : i < 2 * q + 1
            · have q2 : (i : Int) < (n2 : Int) := by omega
              obtain ⟨f1, f2, f3, f4⟩ := gS_facts k gl q i
              have KD := Lib.hid (mo_do HM.out (by omega) (by rw [f2]; decide) (g := 0) (by rw [f1]; decide) (f3 (by omega)))
              have hla : Hid ((if i = 2 * q + 1 then q else (i + 1) / 2) = (i + 1) / 2) := Lib.hid (if_neg (by omega))
              rw [hla.out]
              obtain ⟨la, hla2⟩ : ∃ x, (i + 1) / 2 = x := ⟨_, rfl⟩
              rw [hla2]
              have HLA := Lib.hid hla2
              clear f1 f2 f3 f4 hla2
              have hcs : i = 2 * q ∨ (∃ c, c < q ∧ i = 2 * c) ∨ (∃ c, c < q ∧ i = 2 * c + 1) := by
                by_cases h1 : i = 2 * q
                · exact .inl h1
                · by_cases h2 : i % 2 = 0
                  · exact .inr (.inl ⟨i / 2, by omega, by omega⟩)
                  · exact .inr (.inr ⟨i / 2, by omega, by omega⟩)
              rcases hcs with hcase | ⟨c, hcq, hcase⟩ | ⟨c, hcq, hcase⟩
              · have hcase2 := Lib.hid hcase
                obtain ⟨s1, s2, s3⟩ := G_end (k := k) (q := q) (gl := gl)
                rw [hcase] at KD
                rw [s1] at KD
                unfold cmV at KD
                rw [s2, s3] at KD
                generalize tells [fG gl q] (gS k gl q (2 * q)) 0 = cm at KD
                rw [← hcase, show ((0 : Nat) : Int) = 0 from rfl] at KD
                have hd : i / 2 = (i + 1) / 2 := by omega
                have hW := Lib.hid hd
                clear s1 s2 s3  hcase hd
                go_wp2_with fail
                refine KD.out.mono ?_
                rintro e w8 ⟨rfl, h8, t8⟩
                have x9 := Ex.made w8 (.cells #[.int .i64 (cm.g : Nat), .int .i64 (cm.f : Nat), .int .i64 (cm.pc : Nat), .int .i64 0, .int .i64 cm.v, .bool false] 34)
                have HM9 := Lib.hid (h8.ex x9)
                have HX9 := Lib.hid ((t8.go HX.out HB5.out).trans x9)
                have HB9 := Lib.hid ((t8.box HB.out (.inr rfl)).ex x9)
                have HR9 := Lib.hid (RowJ.ex (HR.out.chg t8 (fun b hb e => by cases hb; exact absurd e.1 (Nat.not_le.2 HRB.out))) x9)
                clear h8 t8 KD HM HX HB HR
                rw [hW.out] at HB9
                go_wp2_with fail
                generalize w8.alloc (.cells #[.int .i64 (cm.g : Nat), .int .i64 (cm.f : Nat), .int .i64 (cm.pc : Nat), .int .i64 0, .int .i64 cm.v, .bool false] 34) = W9 at *
                have KGl := Lib.hid (mo_globals HM9.out)
                rw [(gS_facts k gl q (i + 1)).2.2.2 (by omega)] at KGl
                obtain ⟨Wc, hWc⟩ : ∃ Wc, wG k gl ((i + 1) / 2) = Wc := ⟨_, rfl⟩
                have hWl : Wc.length = k := by rw [← hWc]; exact wG_len ..
                rw [hWc] at KGl HB9
                have HWC := Lib.hid hWc
                unfold RowOut at KGl
                rw [hWl] at KGl
                have HWL := Lib.hid hWl
                clear hWc hWl
                refine KGl.out.mono ?_
                rintro e w10 ⟨u, rfl, hrow, x10⟩
                obtain ⟨ub, uc, rfl, ult, ucap⟩ : ∃ g cap, u = .slice (some ⟨g, 0, none⟩) k cap ∧ g < w10.heap.size ∧ k ≤ cap := by
                  rcases row_shape hrow with ⟨-, h2, -⟩ | ⟨g, cap, h1, -, h3, h4, -⟩
                  · omega
                  · exact ⟨g, cap, h1, h3, h4⟩
                have HRw := Lib.hid hrow
                have HM10 := Lib.hid (HM9.out.ex x10)
                have HX10 := Lib.hid (HX9.out.trans x10)
                have HB10 := Lib.hid (HB9.out.ex x10)
                have HR10 := Lib.hid (HR9.out.ex x10)
                clear hrow x10 KGl HM9 HX9 HB9 HR9
                go_wp2_with fail
                go_loopw [16] (fun qv V => ∃ d : Nat, d ≤ k ∧ qv = .int .i64 d ∧ Ex w10 V) (fun qv _ => k - (intOf qv).toNat)
                case atStart => exact ⟨0, Nat.zero_le _, rfl, Ex.refl _⟩
                case round =>
                  obtain ⟨d, hd, rfl, hxx⟩ := hrel
                  have HXX := Lib.hid hxx
                  clear hxx
                  by_cases hdk : d < k
                  · obtain ⟨y, hy⟩ : ∃ y, Wc.getD d 0 = y := ⟨_, rfl⟩
                    have hdl : d < Wc.length := by rw [HWL.out]; exact hdk
                    have d2 : wr.cell? ⟨mk, d, none⟩ = some (.int .i64 (y : Nat)) := W_cell (HB10.out.ex HXX.out) hdl hy
                    have d3 : wr.cell? ⟨ub, d, none⟩ = some (.int .i64 (y : Nat)) := by
                      refine (HXX.out.cell (p := ⟨ub, d, none⟩) ult).trans ?_
                      have := HRw.out.cellAt d (by omega)
                      rw [this, ← hy]
                      simp [S12.ints, hdl]
                    have p1 : (d : Int) < (k : Int) := by omega
                    have p0 : (0 : Int) ≤ (d : Int) := by omega
                    clear hy hdl
                    go_wp2_with fail
                    go_quiet (fail)
                    go_wp2_with fail
                    go_roundw
                    case rel => exact ⟨d + 1, by omega, by go_num, HXX.out.trans (Ex.drawn _ _)⟩
                    case measure => simp [intOf]; omega
                  · obtain rfl : d = k := by omega
                    have p1 : ¬ (d : Int) < (d : Int) := by omega
                    have HF1 := Lib.hid (HM10.out.ex HXX.out)
                    have HF2 := Lib.hid (HX10.out.trans HXX.out)
                    have HF3 := Lib.hid (HB10.out.ex HXX.out)
                    have HF4 := Lib.hid (HR10.out.ex HXX.out)
                    rw [← HWC.out] at HF3
                    clear HM10 HX10 HB10 HR10 HRw HXX
                    go_wp2
                    go_roundw
                    case rel => exact ⟨i + 1, by omega, by go_num, by rw [if_pos (by have := hcase2.out; omega), show la = q by have := hcase2.out; have := HLA.out; omega], HF1.out, HF2.out, HF4.out, HF3.out⟩
                    case measure => simp [intOf]; omega
              · have hcase2 := Lib.hid hcase
                obtain ⟨s1, s2, s3, s4⟩ := G_even (k := k) (q := q) (gl := gl) hcq
                rw [hcase] at KD
                rw [s1] at KD
                unfold cmV at KD
                rw [s2, s3, s4] at KD
                generalize tells [fG gl q] (gS k gl q (2 * c)) 0 = cm at KD
                rw [← hcase, show ((0 : Nat) : Int) = 0 from rfl] at KD
                have hd : i / 2 = (i + 1) / 2 := by omega
                have hW := Lib.hid hd
                obtain ⟨vv, hvv⟩ : ∃ x, c + 1 = x := ⟨_, rfl⟩
                rw [hvv] at KD
                have HVV := Lib.hid hvv
                clear hvv
                clear s1 s2 s3 s4 hcase hd
                go_wp2_with fail
                refine KD.out.mono ?_
                rintro e w8 ⟨rfl, h8, t8⟩
                have x9 := Ex.made w8 (.cells #[.int .i64 (cm.g : Nat), .int .i64 (cm.f : Nat), .int .i64 (cm.pc : Nat), .int .i64 1, .int .i64 (vv : Nat), .bool false] 34)
                have HM9 := Lib.hid (h8.ex x9)
                have HX9 := Lib.hid ((t8.go HX.out HB5.out).trans x9)
                have HB9 := Lib.hid ((t8.box HB.out (.inr rfl)).ex x9)
                have HR9 := Lib.hid (RowJ.ex (HR.out.chg t8 (fun b hb e => by cases hb; exact absurd e.1 (Nat.not_le.2 HRB.out))) x9)
                clear h8 t8 KD HM HX HB HR
                rw [hW.out] at HB9
                go_wp2_with fail
                generalize w8.alloc (.cells #[.int .i64 (cm.g : Nat), .int .i64 (cm.f : Nat), .int .i64 (cm.pc : Nat), .int .i64 1, .int .i64 (vv : Nat), .bool false] 34) = W9 at *
                have KGl := Lib.hid (mo_globals HM9.out)
                rw [(gS_facts k gl q (i + 1)).2.2.2 (by omega)] at KGl
                obtain ⟨Wc, hWc⟩ : ∃ Wc, wG k gl ((i + 1) / 2) = Wc := ⟨_, rfl⟩
                have hWl : Wc.length = k := by rw [← hWc]; exact wG_len ..
                rw [hWc] at KGl HB9
                have HWC := Lib.hid hWc
                unfold RowOut at KGl
                rw [hWl] at KGl
                have HWL := Lib.hid hWl
                clear hWc hWl
                refine KGl.out.mono ?_
                rintro e w10 ⟨u, rfl, hrow, x10⟩
                obtain ⟨ub, uc, rfl, ult, ucap⟩ : ∃ g cap, u = .slice (some ⟨g, 0, none⟩) k cap ∧ g < w10.heap.size ∧ k ≤ cap := by
                  rcases row_shape hrow with ⟨-, h2, -⟩ | ⟨g, cap, h1, -, h3, h4, -⟩
                  · omega
                  · exact ⟨g, cap, h1, h3, h4⟩
                have HRw := Lib.hid hrow
                have HM10 := Lib.hid (HM9.out.ex x10)
                have HX10 := Lib.hid (HX9.out.trans x10)
                have HB10 := Lib.hid (HB9.out.ex x10)
                have HR10 := Lib.hid (HR9.out.ex x10)
                clear hrow x10 KGl HM9 HX9 HB9 HR9
                go_wp2_with fail
                go_loopw [16] (fun qv V => ∃ d : Nat, d ≤ k ∧ qv = .int .i64 d ∧ Ex w10 V) (fun qv _ => k - (intOf qv).toNat)
                case atStart => exact ⟨0, Nat.zero_le _, rfl, Ex.refl _⟩
                case round =>
                  obtain ⟨d, hd, rfl, hxx⟩ := hrel
                  have HXX := Lib.hid hxx
                  clear hxx
                  by_cases hdk : d < k
                  · obtain ⟨y, hy⟩ : ∃ y, Wc.getD d 0 = y := ⟨_, rfl⟩
                    have hdl : d < Wc.length := by rw [HWL.out]; exact hdk
                    have d2 : wr.cell? ⟨mk, d, none⟩ = some (.int .i64 (y : Nat)) := W_cell (HB10.out.ex HXX.out) hdl hy
                    have d3 : wr.cell? ⟨ub, d, none⟩ = some (.int .i64 (y : Nat)) := by
                      refine (HXX.out.cell (p := ⟨ub, d, none⟩) ult).trans ?_
                      have := HRw.out.cellAt d (by omega)
                      rw [this, ← hy]
                      simp [S12.ints, hdl]
                    have p1 : (d : Int) < (k : Int) := by omega
                    have p0 : (0 : Int) ≤ (d : Int) := by omega
                    clear hy hdl
                    go_wp2_with fail
                    go_quiet (fail)
                    go_wp2_with fail
                    go_roundw
                    case rel => exact ⟨d + 1, by omega, by go_num, HXX.out.trans (Ex.drawn _ _)⟩
                    case measure => simp [intOf]; omega
                  · obtain rfl : d = k := by omega
                    have p1 : ¬ (d : Int) < (d : Int) := by omega
                    have HF1 := Lib.hid (HM10.out.ex HXX.out)
                    have HF2 := Lib.hid (HX10.out.trans HXX.out)
                    have HF3 := Lib.hid (HB10.out.ex HXX.out)
                    have HF4 := Lib.hid (HR10.out.ex HXX.out)
                    rw [← HWC.out] at HF3
                    clear HM10 HX10 HB10 HR10 HRw HXX
                    go_wp2
                    go_roundw
                    case rel => exact ⟨i + 1, by omega, by go_num, by rw [if_neg (by have := hcase2.out; omega), show (i + 1 + 1) / 2 = vv by have := hcase2.out; have := HVV.out; omega], HF1.out, HF2.out, HF4.out, HF3.out⟩
                    case measure => simp [intOf]; omega
              · have hcase2 := Lib.hid hcase
                obtain ⟨s1, s2, s3⟩ := G_odd (k := k) (q := q) (gl := gl) hcq
                rw [hcase] at KD
                rw [s1] at KD
                unfold cmV at KD
                rw [s2, s3] at KD
                generalize tells [fG gl q] (gS k gl q (2 * c + 1)) 0 = cm at KD
                rw [show 2 * c + 2 = i + 1 by omega, show ((0 : Nat) : Int) = 0 from rfl] at KD
                clear s1 s2 s3  hcase 
                go_wp2_with fail
                refine KD.out.mono ?_
                rintro e w8 ⟨rfl, h8, t8⟩
                have x9 := Ex.made w8 (.cells #[.int .i64 (cm.g : Nat), .int .i64 (cm.f : Nat), .int .i64 (cm.pc : Nat), .int .i64 7, .int .i64 cm.v, .bool false] 34)
                have HM9 := Lib.hid (h8.ex x9)
                have HX9 := Lib.hid ((t8.go HX.out HB5.out).trans x9)
                have HB9 := Lib.hid ((t8.box HB.out (.inr rfl)).ex x9)
                have HR9 := Lib.hid (RowJ.ex (HR.out.chg t8 (fun b hb e => by cases hb; exact absurd e.1 (Nat.not_le.2 HRB.out))) x9)
                clear h8 t8 KD HM HX HB HR
                obtain ⟨gc, hgc⟩ : ∃ x, gl.getD c 0 = x := ⟨_, rfl⟩
                have hgk : gc < k := by
                  rw [← hgc, List.getD_eq_getElem?_getD]
                  cases e : gl[c]? with
                  | none => show 0 < k; omega
                  | some y => exact HGL.out y (List.mem_of_getElem? e)
                have d1 : w8.heap.size < (w8.alloc (.cells #[.int .i64 (cm.g : Nat), .int .i64 (cm.f : Nat), .int .i64 (cm.pc : Nat), .int .i64 7, .int .i64 cm.v, .bool false] 34)).heap.size := by simp
                have hcw : (wG k gl (i / 2)).set gc la = wG k gl ((i + 1) / 2) := by
                  rw [show (i + 1) / 2 = c + 1 by have := hcase2.out; omega, show i / 2 = c by have := hcase2.out; omega, show la = c + 1 by have := hcase2.out; have := HLA.out; omega, wG, hgc]
                have cr : (w8.alloc (.cells #[.int .i64 (cm.g : Nat), .int .i64 (cm.f : Nat), .int .i64 (cm.pc : Nat), .int .i64 7, .int .i64 cm.v, .bool false] 34)).cell? ⟨rb, i * 4 + 1, none⟩ = some (.int .i64 (gc : Nat)) := by
                  have hx : (fG gl q)[i]? = some (7, ((gl.getD c 0 : Nat) : Int), 1, 0) := by
                    unfold fG
                    rw [hcase2.out, List.getElem?_append_left (by rw [pG_len]; omega)]
                    exact (pG_at gl q c hcq).2
                  have := HR9.out.cell hx
                  rw [hgc] at this
                  exact this
                have fw := HB9.out.soft gc
                obtain ⟨ov, hov⟩ : ∃ x, (wG k gl (i / 2)).getD gc 0 = x := ⟨_, rfl⟩
                have cw := W_cell HB9.out (i := gc) (by rw [wG_len]; exact hgk) hov
                have n2c : n2 ≤ cap := by
                  rcases row_shape HR9.out with ⟨hq, -⟩ | ⟨g', cap', hq, -, -, h7, -⟩
                  · cases hq
                  · injection hq with _ _ e; rw [fG_len] at h7; omega
                have g1 : (gc : Int) < (k : Int) := by omega
                have g0 : (0 : Int) ≤ (gc : Int) := by omega
                have BZ := HB9.out.put gc (.int .i64 (la : Nat))
                rw [cells_W, hcw] at BZ
                have cZ := Chg.cell (F := fun i => i = mk) (w8.alloc (.cells #[.int .i64 (cm.g : Nat), .int .i64 (cm.f : Nat), .int .i64 (cm.pc : Nat), .int .i64 7, .int .i64 cm.v, .bool false] 34)) ⟨mk, gc, none⟩ (.int .i64 (la : Nat)) rfl
                have HMZ := Lib.hid (HM9.out.mine cZ)
                have HXZ := Lib.hid (ex_put HX9.out HMK.out.1 gc (.int .i64 (la : Nat)))
                have HBZ := Lib.hid BZ
                have HRZ := Lib.hid (HR9.out.chg cZ (fun b hb e => by cases hb; exact HMK.out.2 e))
                clear hgc hov hcw BZ cZ HM9 HX9 HB9 HR9
                go_upto_region 28 with fail
                generalize (w8.alloc (.cells #[.int .i64 (cm.g : Nat), .int .i64 (cm.f : Nat), .int .i64 (cm.pc : Nat), .int .i64 7, .int .i64 cm.v, .bool false] 34)).setCell ⟨mk, gc, none⟩ (.int .i64 (la : Nat)) = WZ at *
                clear cr fw cw d1 x9
                go_wp2_with fail
                have KGl := Lib.hid (mo_globals HMZ.out)
                rw [(gS_facts k gl q (i + 1)).2.2.2 (by omega)] at KGl
                obtain ⟨Wc, hWc⟩ : ∃ Wc, wG k gl ((i + 1) / 2) = Wc := ⟨_, rfl⟩
                have hWl : Wc.length = k := by rw [← hWc]; exact wG_len ..
                rw [hWc] at KGl HBZ
                have HWC := Lib.hid hWc
                unfold RowOut at KGl
                rw [hWl] at KGl
                have HWL := Lib.hid hWl
                clear hWc hWl
                refine KGl.out.mono ?_
                rintro e w10 ⟨u, rfl, hrow, x10⟩
                obtain ⟨ub, uc, rfl, ult, ucap⟩ : ∃ g cap, u = .slice (some ⟨g, 0, none⟩) k cap ∧ g < w10.heap.size ∧ k ≤ cap := by
                  rcases row_shape hrow with ⟨-, h2, -⟩ | ⟨g, cap, h1, -, h3, h4, -⟩
                  · omega
                  · exact ⟨g, cap, h1, h3, h4⟩
                have HRw := Lib.hid hrow
                have HM10 := Lib.hid (HMZ.out.ex x10)
                have HX10 := Lib.hid (HXZ.out.trans x10)
                have HB10 := Lib.hid (HBZ.out.ex x10)
                have HR10 := Lib.hid (HRZ.out.ex x10)
                clear hrow x10 KGl HMZ HXZ HBZ HRZ
                go_wp2_with fail
                go_loopw [16] (fun qv V => ∃ d : Nat, d ≤ k ∧ qv = .int .i64 d ∧ Ex w10 V) (fun qv _ => k - (intOf qv).toNat)
                case atStart => exact ⟨0, Nat.zero_le _, rfl, Ex.refl _⟩
                case round =>
                  obtain ⟨d, hd, rfl, hxx⟩ := hrel
                  have HXX := Lib.hid hxx
                  clear hxx
                  by_cases hdk : d < k
                  · obtain ⟨y, hy⟩ : ∃ y, Wc.getD d 0 = y := ⟨_, rfl⟩
                    have hdl : d < Wc.length := by rw [HWL.out]; exact hdk
                    have d2 : wr.cell? ⟨mk, d, none⟩ = some (.int .i64 (y : Nat)) := W_cell (HB10.out.ex HXX.out) hdl hy
                    have d3 : wr.cell? ⟨ub, d, none⟩ = some (.int .i64 (y : Nat)) := by
                      refine (HXX.out.cell (p := ⟨ub, d, none⟩) ult).trans ?_
                      have := HRw.out.cellAt d (by omega)
                      rw [this, ← hy]
                      simp [S12.ints, hdl]
                    have p1 : (d : Int) < (k : Int) := by omega
                    have p0 : (0 : Int) ≤ (d : Int) := by omega
                    clear hy hdl
                    go_wp2_with fail
                    go_quiet (fail)
                    go_wp2_with fail
                    go_roundw
                    case rel => exact ⟨d + 1, by omega, by go_num, HXX.out.trans (Ex.drawn _ _)⟩
                    case measure => simp [intOf]; omega
                  · obtain rfl : d = k := by omega
                    have p1 : ¬ (d : Int) < (d : Int) := by omega
                    have HF1 := Lib.hid (HM10.out.ex HXX.out)
                    have HF2 := Lib.hid (HX10.out.trans HXX.out)
                    have HF3 := Lib.hid (HB10.out.ex HXX.out)
                    have HF4 := Lib.hid (HR10.out.ex HXX.out)
                    rw [← HWC.out] at HF3
                    clear HM10 HX10 HB10 HR10 HRw HXX
                    go_wp2
                    go_roundw
                    case rel => exact ⟨i + 1, by omega, by go_num, by rw [if_neg (by have := hcase2.out; omega), show (i + 1 + 1) / 2 = la by have := hcase2.out; have := HLA.out; omega], HF1.out, HF2.out, HF4.out, HF3.out⟩
                    case measure => simp [intOf]; omega
            · obtain rfl : i = 2 * q + 1 := by omega
              have q2 : ¬ (2 * (q : Int) + 1) < (n2 : Int) := by omega
              have q3 : ¬ ((2 * q + 1 : Nat) : Int) < (n2 : Int) := by omega
              have hd : (2 * q + 1) / 2 = q := by omega
              rw [hd] at HB
              rw [if_pos rfl]
              obtain ⟨Wc, hWc⟩ : ∃ Wc, wG k gl q = Wc := ⟨_, rfl⟩
              have hWl : Wc.length = k := by rw [← hWc]; exact wG_len ..
              rw [hWc] at HB
              have HWC := Lib.hid hWc
              have HWL := Lib.hid hWl
              clear hd hWc hWl
              go_wp2_with fail
              go_loopw [17, 18] (fun cv qv V => ∃ d : Nat, d ≤ k ∧ qv = .int .i64 d ∧ cv = .int .i64 (nzTo Wc d : Nat) ∧ Ex wr V) (fun _ qv _ => k - (intOf qv).toNat)
              case atStart => exact ⟨0, Nat.zero_le _, rfl, rfl, Ex.refl _⟩
              case round =>
                obtain ⟨d, hd, rfl, rfl, hxx⟩ := hrel
                have HXX := Lib.hid hxx
                clear hxx
                by_cases hdk : d < k
                · obtain ⟨y, hy⟩ : ∃ y, Wc.getD d 0 = y := ⟨_, rfl⟩
                  have hdl : d < Wc.length := by rw [HWL.out]; exact hdk
                  have d2 : wr.cell? ⟨mk, d, none⟩ = some (.int .i64 (y : Nat)) := W_cell (HB.out.ex HXX.out) hdl hy
                  have hs := nz_step Wc d y hdl hy
                  have hnz : nzTo Wc d ≤ 100 := by
                    unfold nzTo
                    have := List.length_filter_le (fun x : Nat => decide (x ≠ 0)) (Wc.take d)
                    rw [List.length_take] at this
                    omega
                  have p1 : (d : Int) < (k : Int) := by omega
                  have p0 : (0 : Int) ≤ (d : Int) := by omega
                  obtain ⟨nz, hnz2⟩ : ∃ x, nzTo Wc d = x := ⟨_, rfl⟩
                  rw [hnz2] at hs hnz ⊢
                  have HS := Lib.hid hs
                  clear hy hdl hnz2 hs
                  by_cases hy0 : y = 0
                  · have hyz : ((y : Int) != 0) = false := by simp [hy0]
                    have HY := Lib.hid hy0
                    clear hy0
                    go_wp2_with fail
                    go_roundw
                    case rel => exact ⟨d + 1, by omega, by go_num, by rw [HS.out, if_pos HY.out]; rfl, HXX.out⟩
                    case measure => simp [intOf]; omega
                  · have hyz : ((y : Int) != 0) = true := by simp; omega
                    have e5 : IntKind.i64.wrap ((nz : Int) + 1) = ((nz + 1 : Nat) : Int) := by rw [IntKind.wrap_i64]; omega
                    have HY := Lib.hid hy0
                    clear hy0
                    go_wp2_with fail
                    go_roundw
                    case rel => exact ⟨d + 1, by omega, by go_num, by rw [HS.out, if_neg HY.out]; rfl, HXX.out⟩
                    case measure => simp [intOf]; omega
                · obtain rfl : d = k := by omega
                  have p1 : ¬ (d : Int) < (d : Int) := by omega
                  have HF1 := Lib.hid (HM.out.ex HXX.out)
                  have HF2 := Lib.hid (HX.out.trans HXX.out)
                  have hnz : nzTo Wc d = (rchL (gS d gl q (2 * q + 1))).length := by
                    rw [G_reach, HWC.out]
                    unfold nzTo
                    rw [← HWL.out, List.take_length]
                  rw [hnz]
                  obtain ⟨R, hR⟩ : ∃ R, rchL (gS d gl q (2 * q + 1)) = R := ⟨_, rfl⟩
                  rw [hR]
                  have HR2 := Lib.hid hR
                  clear hR hnz HM HX HXX HB HR
                  go_wp2_with fail
                  refine (told_any _).mono ?_
                  rintro e w11 ⟨rfl, x11⟩
                  have HM11 := Lib.hid (HF1.out.ex x11)
                  have HX11 := Lib.hid (HF2.out.trans x11)
                  have KS := Lib.hid (mo_state HM11.out 0 5 (by unfold gS; rw [if_pos rfl]; rfl))
                  have KR := Lib.hid (mo_reach HM11.out (by omega))
                  rw [HR2.out] at KR
                  unfold RowOut at KR
                  clear x11 HF1 HF2
                  go_wp2_with fail
                  refine KS.out.mono ?_
                  rintro e w12 ⟨rfl, rfl⟩
                  go_wp2_with fail
                  refine KR.out.mono ?_
                  rintro e w13 ⟨u, rfl, hrow, x13⟩
                  obtain ⟨ua, uc, rfl⟩ := T13.row_val hrow
                  have HX13 := Lib.hid (HX11.out.trans x13)
                  clear hrow x13 KR KS
                  go_wp2_with fail
                  go_ret
                  exact ⟨rfl, HX13.out⟩
        · have h61 : ¬ (60 : Int) < (N1 : Int) := by omega
          go_wp2
          go_roundw
          case rel => exact ⟨i + 1, by omega, by omega, by go_num, H1.out, H2.out⟩
          case measure => simp [intOf]; omega
      · obtain rfl : i = N := by omega
        have q1 : ¬ (i : Int) < (i : Int) := by omega
        have H3 := Lib.hid hown
        have H2 := Lib.hid hx
        clear hown hx
        have bx := Box.fresh wr #[.int .i64 0, .int .i64 0, .int .i64 0, .int .i64 0] 40
        have x1 := Ex.made wr (.cells #[.int .i64 0, .int .i64 0, .int .i64 0, .int .i64 0] 40)
        have HB := Lib.hid bx
        have HO := Lib.hid (H3.out.ex x1)
        have HX := Lib.hid (Ex.trans H2.out x1)
        have hln : (pG gl i).length + 1 ≤ 100000 := by rw [pG_len]; omega
        obtain ⟨q, hqq⟩ : ∃ q, i = q := ⟨_, rfl⟩
        have hq30 : q ≤ 30 := by omega
        rw [hqq] at HO hln
        clear bx x1 H3 H2 hqq
        go_wp2_with (at_builtin; refine wpList_append_insts _ rfl (.tmp 54) (.tmp 56) rfl (B := w.heap.size) (l := pG gl q) (M := [(0, 0, 0, 0)]) rfl HO.out HX.out.size rfl HB.out rfl rfl (by decide) hln (L := fG gl q) rfl (fG_len gl q) ?_)
        intro rb cap w4 h1 h2 h3 h4 h5
        have H4 := ex_grownJ HO.out HX.out HX.out.size h2
        obtain ⟨n2, hn2⟩ : ∃ n, 2 * q + 1 = n := ⟨_, rfl⟩
        rw [hn2] at h1 ⊢
        have b5 := Box.fresh w4 #[.slice (some ⟨rb, 0, none⟩) n2 cap] 42
        have x5 := Ex.made w4 (.cells #[.slice (some ⟨rb, 0, none⟩) n2 cap] 42)
        clear h2 h3 h4 HO HX HB hln
        go_wp2_with fail
        generalize w4.alloc (.cells #[.slice (some ⟨rb, 0, none⟩) n2 cap] 42) = W5 at *
        have hp : C15.RdP W5 (.slice (some ⟨w4.heap.size, 0, none⟩) 1 1) [fG gl q] := rdP_box (F := [fG gl q]) (cap := 1) (lv := fun _ => .slice (some ⟨rb, 0, none⟩) n2 cap) b5 (by simp) (fun p hp => by
          obtain rfl : p = 0 := by have : p < 1 := hp; omega
          exact (h1.ex x5).rd)
        have HX5 := Lib.hid (Ex.trans H4 x5)
        have HB5 : Hid (w.heap.size ≤ W5.heap.size) := Lib.hid HX5.out.size
        have HRB : Hid (rb < W5.heap.size) := Lib.hid (by have := x5.size; omega)
        have HRow := Lib.hid (h1.ex x5)
        refine (build_any hp (Ex.refl _) (HMAY.out q hq30)).mono ?_
        rintro e w6 ⟨mb, rfl, h6, x6⟩
        have HM6 := Lib.hid h6
        have HX6 := Lib.hid (HX5.out.trans x6)
        have HR6 := Lib.hid (HRow.out.ex x6)
        have hms := make_ints w6 k (by omega)
        clear hp h1 h5 H4 b5 x5 h6 x6 HX5 HRow
        go_wp2_with fail
        have b7 := Box.fresh w6 (S12.ints (List.replicate k 0)).toArray 3
        have x7 := Ex.made w6 (.cells (S12.ints (List.replicate k 0)).toArray 3)
        have hs7 : w6.heap.size < (w6.alloc (.cells (S12.ints (List.replicate k 0)).toArray 3)).heap.size := by simp
        generalize w6.alloc (.cells (S12.ints (List.replicate k 0)).toArray 3) = W7 at *
        obtain ⟨mk, hmk⟩ : ∃ b, w6.heap.size = b := ⟨_, rfl⟩
        rw [hmk] at b7 hs7 ⊢
        have HM7 := Lib.hid (HM6.out.own x7 (fun i => i = mk) (fun i hi => .inr (by subst hi; omega)))
        have HX7 := Lib.hid (HX6.out.trans x7)
        have HB7 := Lib.hid b7
        have HR7 := Lib.hid (HR6.out.ex x7)
        have HMK : Hid (w.heap.size ≤ mk ∧ rb ≠ mk) := Lib.hid (by have := HX6.out.size; have := HRB.out; have := HM6.out.bs; omega)
        clear b7 x7 hs7 hmk hms HM6 HX6 HR6
        go_loopw [11, 12] (fun la qv W => ∃ i : Nat, i ≤ 2 * q + 1 ∧ qv = .int .i64 i ∧ la = .int .i64 ((if i = 2 * q + 1 then q else (i + 1) / 2 : Nat) : Int) ∧ Mo W5.heap.size (fun i => i = mk) W mb [fG gl q] k i (gS k gl q i) ∧ Ex w W ∧ RowJ W w.heap.size (.slice (some ⟨rb, 0, none⟩) n2 cap) (fG gl q) ∧ Box W mk (S12.ints (wG k gl (i / 2))).toArray 3) (fun _ qv _ => 2 * q + 1 - (intOf qv).toNat)
        case atStart => exact ⟨0, Nat.zero_le _, rfl, by rw [if_neg (by omega)]; rfl, by rw [gS_zero]; exact HM7.out, HX7.out, HR7.out, HB7.out⟩
        case round =>
          clear HM7 HX7 HB7 HR7
          obtain ⟨i, hi, rfl, rfl, hm, hx, hr, hbx⟩ := hrel
          have HM := Lib.hid hm
          have HX := Lib.hid hx
          have HR := Lib.hid hr
          have HB := Lib.hid hbx
          clear hm hx hr hbx
          by_cases hlt2 : i < 2 * q + 1
          · have q2 : (i : Int) < (n2 : Int) := by omega
            obtain ⟨f1, f2, f3, f4⟩ := gS_facts k gl q i
            have KD := Lib.hid (mo_do HM.out (by omega) (by rw [f2]; decide) (g := 0) (by rw [f1]; decide) (f3 (by omega)))
            have hla : Hid ((if i = 2 * q + 1 then q else (i + 1) / 2) = (i + 1) / 2) := Lib.hid (if_neg (by omega))
            rw [hla.out]
            obtain ⟨la, hla2⟩ : ∃ x, (i + 1) / 2 = x := ⟨_, rfl⟩
            rw [hla2]
            have HLA := Lib.hid hla2
            clear f1 f2 f3 f4 hla2
            have hcs : i = 2 * q ∨ (∃ c, c < q ∧ i = 2 * c) ∨ (∃ c, c < q ∧ i = 2 * c + 1) := by
              by_cases h1 : i = 2 * q
              · exact .inl h1
              · by_cases h2 : i % 2 = 0
                · exact .inr (.inl ⟨i / 2, by omega, by omega⟩)
                · exact .inr (.inr ⟨i / 2, by omega, by omega⟩)
            rcases hcs with hcase | ⟨c, hcq, hcase⟩ | ⟨c, hcq, hcase⟩
            · have hcase2 := Lib.hid hcase
              obtain ⟨s1, s2, s3⟩ := G_end (k := k) (q := q) (gl := gl)
              rw [hcase] at KD
              rw [s1] at KD
              unfold cmV at KD
              rw [s2, s3] at KD
              generalize tells [fG gl q] (gS k gl q (2 * q)) 0 = cm at KD
              rw [← hcase, show ((0 : Nat) : Int) = 0 from rfl] at KD
              have hd : i / 2 = (i + 1) / 2 := by omega
              have hW := Lib.hid hd
              clear s1 s2 s3  hcase hd
              go_wp2_with fail
              refine KD.out.mono ?_
              rintro e w8 ⟨rfl, h8, t8⟩
              have x9 := Ex.made w8 (.cells #[.int .i64 (cm.g : Nat), .int .i64 (cm.f : Nat), .int .i64 (cm.pc : Nat), .int .i64 0, .int .i64 cm.v, .bool false] 34)
              have HM9 := Lib.hid (h8.ex x9)
              have HX9 := Lib.hid ((t8.go HX.out HB5.out).trans x9)
              have HB9 := Lib.hid ((t8.box HB.out (.inr rfl)).ex x9)
              have HR9 := Lib.hid (RowJ.ex (HR.out.chg t8 (fun b hb e => by cases hb; exact absurd e.1 (Nat.not_le.2 HRB.out))) x9)
              clear h8 t8 KD HM HX HB HR
              rw [hW.out] at HB9
              go_wp2_with fail
              generalize w8.alloc (.cells #[.int .i64 (cm.g : Nat), .int .i64 (cm.f : Nat), .int .i64 (cm.pc : Nat), .int .i64 0, .int .i64 cm.v, .bool false] 34) = W9 at *
              have KGl := Lib.hid (mo_globals HM9.out)
              rw [(gS_facts k gl q (i + 1)).2.2.2 (by omega)] at KGl
              obtain ⟨Wc, hWc⟩ : ∃ Wc, wG k gl ((i + 1) / 2) = Wc := ⟨_, rfl⟩
              have hWl : Wc.length = k := by rw [← hWc]; exact wG_len ..
              rw [hWc] at KGl HB9
              have HWC := Lib.hid hWc
              unfold RowOut at KGl
              rw [hWl] at KGl
              have HWL := Lib.hid hWl
              clear hWc hWl
              refine KGl.out.mono ?_
              rintro e w10 ⟨u, rfl, hrow, x10⟩
              obtain ⟨ub, uc, rfl, ult, ucap⟩ : ∃ g cap, u = .slice (some ⟨g, 0, none⟩) k cap ∧ g < w10.heap.size ∧ k ≤ cap := by
                rcases row_shape hrow with ⟨-, h2, -⟩ | ⟨g, cap, h1, -, h3, h4, -⟩
                · omega
                · exact ⟨g, cap, h1, h3, h4⟩
              have HRw := Lib.hid hrow
              have HM10 := Lib.hid (HM9.out.ex x10)
              have HX10 := Lib.hid (HX9.out.trans x10)
              have HB10 := Lib.hid (HB9.out.ex x10)
              have HR10 := Lib.hid (HR9.out.ex x10)
              clear hrow x10 KGl HM9 HX9 HB9 HR9
              go_wp2_with fail
              go_loopw [16] (fun qv V => ∃ d : Nat, d ≤ k ∧ qv = .int .i64 d ∧ Ex w10 V) (fun qv _ => k - (intOf qv).toNat)
              case atStart => exact ⟨0, Nat.zero_le _, rfl, Ex.refl _⟩
              case round =>
                obtain ⟨d, hd, rfl, hxx⟩ := hrel
                have HXX := Lib.hid hxx
                clear hxx
                by_cases hdk : d < k
                · obtain ⟨y, hy⟩ : ∃ y, Wc.getD d 0 = y := ⟨_, rfl⟩
                  have hdl : d < Wc.length := by rw [HWL.out]; exact hdk
                  have d2 : wr.cell? ⟨mk, d, none⟩ = some (.int .i64 (y : Nat)) := W_cell (HB10.out.ex HXX.out) hdl hy
                  have d3 : wr.cell? ⟨ub, d, none⟩ = some (.int .i64 (y : Nat)) := by
                    refine (HXX.out.cell (p := ⟨ub, d, none⟩) ult).trans ?_
                    have := HRw.out.cellAt d (by omega)
                    rw [this, ← hy]
                    simp [S12.ints, hdl]
                  have p1 : (d : Int) < (k : Int) := by omega
                  have p0 : (0 : Int) ≤ (d : Int) := by omega
                  clear hy hdl
                  go_wp2_with fail
                  go_quiet (fail)
                  go_wp2_with fail
                  go_roundw
                  case rel => exact ⟨d + 1, by omega, by go_num, HXX.out.trans (Ex.drawn _ _)⟩
                  case measure => simp [intOf]; omega
                · obtain rfl : d = k := by omega
                  have p1 : ¬ (d : Int) < (d : Int) := by omega
                  have HF1 := Lib.hid (HM10.out.ex HXX.out)
                  have HF2 := Lib.hid (HX10.out.trans HXX.out)
                  have HF3 := Lib.hid (HB10.out.ex HXX.out)
                  have HF4 := Lib.hid (HR10.out.ex HXX.out)
                  rw [← HWC.out] at HF3
                  clear HM10 HX10 HB10 HR10 HRw HXX
                  go_wp2
                  go_roundw
                  case rel => exact ⟨i + 1, by omega, by go_num, by rw [if_pos (by have := hcase2.out; omega), show la = q by have := hcase2.out; have := HLA.out; omega], HF1.out, HF2.out, HF4.out, HF3.out⟩
                  case measure => simp [intOf]; omega
            · have hcase2 := Lib.hid hcase
              obtain ⟨s1, s2, s3, s4⟩ := G_even (k := k) (q := q) (gl := gl) hcq
              rw [hcase] at KD
              rw [s1] at KD
              unfold cmV at KD
              rw [s2, s3, s4] at KD
              generalize tells [fG gl q] (gS k gl q (2 * c)) 0 = cm at KD
              rw [← hcase, show ((0 : Nat) : Int) = 0 from rfl] at KD
              have hd : i / 2 = (i + 1) / 2 := by omega
              have hW := Lib.hid hd
              obtain ⟨vv, hvv⟩ : ∃ x, c + 1 = x := ⟨_, rfl⟩
              rw [hvv] at KD
              have HVV := Lib.hid hvv
              clear hvv
              clear s1 s2 s3 s4 hcase hd
              go_wp2_with fail
              refine KD.out.mono ?_
              rintro e w8 ⟨rfl, h8, t8⟩
              have x9 := Ex.made w8 (.cells #[.int .i64 (cm.g : Nat), .int .i64 (cm.f : Nat), .int .i64 (cm.pc : Nat), .int .i64 1, .int .i64 (vv : Nat), .bool false] 34)
              have HM9 := Lib.hid (h8.ex x9)
              have HX9 := Lib.hid ((t8.go HX.out HB5.out).trans x9)
              have HB9 := Lib.hid ((t8.box HB.out (.inr rfl)).ex x9)
              have HR9 := Lib.hid (RowJ.ex (HR.out.chg t8 (fun b hb e => by cases hb; exact absurd e.1 (Nat.not_le.2 HRB.out))) x9)
              clear h8 t8 KD HM HX HB HR
              rw [hW.out] at HB9
              go_wp2_with fail
              generalize w8.alloc (.cells #[.int .i64 (cm.g : Nat), .int .i64 (cm.f : Nat), .int .i64 (cm.pc : Nat), .int .i64 1, .int .i64 (vv : Nat), .bool false] 34) = W9 at *
              have KGl := Lib.hid (mo_globals HM9.out)
              rw [(gS_facts k gl q (i + 1)).2.2.2 (by omega)] at KGl
              obtain ⟨Wc, hWc⟩ : ∃ Wc, wG k gl ((i + 1) / 2) = Wc := ⟨_, rfl⟩
              have hWl : Wc.length = k := by rw [← hWc]; exact wG_len ..
              rw [hWc] at KGl HB9
              have HWC := Lib.hid hWc
              unfold RowOut at KGl
              rw [hWl] at KGl
              have HWL := Lib.hid hWl
              clear hWc hWl
              refine KGl.out.mono ?_
              rintro e w10 ⟨u, rfl, hrow, x10⟩
              obtain ⟨ub, uc, rfl, ult, ucap⟩ : ∃ g cap, u = .slice (some ⟨g, 0, none⟩) k cap ∧ g < w10.heap.size ∧ k ≤ cap := by
                rcases row_shape hrow with ⟨-, h2, -⟩ | ⟨g, cap, h1, -, h3, h4, -⟩
                · omega
                · exact ⟨g, cap, h1, h3, h4⟩
              have HRw := Lib.hid hrow
              have HM10 := Lib.hid (HM9.out.ex x10)
              have HX10 := Lib.hid (HX9.out.trans x10)
              have HB10 := Lib.hid (HB9.out.ex x10)
              have HR10 := Lib.hid (HR9.out.ex x10)
              clear hrow x10 KGl HM9 HX9 HB9 HR9
              go_wp2_with fail
              go_loopw [16] (fun qv V => ∃ d : Nat, d ≤ k ∧ qv = .int .i64 d ∧ Ex w10 V) (fun qv _ => k - (intOf qv).toNat)
              case atStart => exact ⟨0, Nat.zero_le _, rfl, Ex.refl _⟩
              case round =>
                obtain ⟨d, hd, rfl, hxx⟩ := hrel
                have HXX := Lib.hid hxx
                clear hxx
                by_cases hdk : d < k
                · obtain ⟨y, hy⟩ : ∃ y, Wc.getD d 0 = y := ⟨_, rfl⟩
                  have hdl : d < Wc.length := by rw [HWL.out]; exact hdk
                  have d2 : wr.cell? ⟨mk, d, none⟩ = some (.int .i64 (y : Nat)) := W_cell (HB10.out.ex HXX.out) hdl hy
                  have d3 : wr.cell? ⟨ub, d, none⟩ = some (.int .i64 (y : Nat)) := by
                    refine (HXX.out.cell (p := ⟨ub, d, none⟩) ult).trans ?_
                    have := HRw.out.cellAt d (by omega)
                    rw [this, ← hy]
                    simp [S12.ints, hdl]
                  have p1 : (d : Int) < (k : Int) := by omega
                  have p0 : (0 : Int) ≤ (d : Int) := by omega
                  clear hy hdl
                  go_wp2_with fail
                  go_quiet (fail)
                  go_wp2_with fail
                  go_roundw
                  case rel => exact ⟨d + 1, by omega, by go_num, HXX.out.trans (Ex.drawn _ _)⟩
                  case measure => simp [intOf]; omega
                · obtain rfl : d = k := by omega
                  have p1 : ¬ (d : Int) < (d : Int) := by omega
                  have HF1 := Lib.hid (HM10.out.ex HXX.out)
                  have HF2 := Lib.hid (HX10.out.trans HXX.out)
                  have HF3 := Lib.hid (HB10.out.ex HXX.out)
                  have HF4 := Lib.hid (HR10.out.ex HXX.out)
                  rw [← HWC.out] at HF3
                  clear HM10 HX10 HB10 HR10 HRw HXX
                  go_wp2
                  go_roundw
                  case rel => exact ⟨i + 1, by omega, by go_num, by rw [if_neg (by have := hcase2.out; omega), show (i + 1 + 1) / 2 = vv by have := hcase2.out; have := HVV.out; omega], HF1.out, HF2.out, HF4.out, HF3.out⟩
                  case measure => simp [intOf]; omega
            · have hcase2 := Lib.hid hcase
              obtain ⟨s1, s2, s3⟩ := G_odd (k := k) (q := q) (gl := gl) hcq
              rw [hcase] at KD
              rw [s1] at KD
              unfold cmV at KD
              rw [s2, s3] at KD
              generalize tells [fG gl q] (gS k gl q (2 * c + 1)) 0 = cm at KD
              rw [show 2 * c + 2 = i + 1 by omega, show ((0 : Nat) : Int) = 0 from rfl] at KD
              clear s1 s2 s3  hcase 
              go_wp2_with fail
              refine KD.out.mono ?_
              rintro e w8 ⟨rfl, h8, t8⟩
              have x9 := Ex.made w8 (.cells #[.int .i64 (cm.g : Nat), .int .i64 (cm.f : Nat), .int .i64 (cm.pc : Nat), .int .i64 7, .int .i64 cm.v, .bool false] 34)
              have HM9 := Lib.hid (h8.ex x9)
              have HX9 := Lib.hid ((t8.go HX.out HB5.out).trans x9)
              have HB9 := Lib.hid ((t8.box HB.out (.inr rfl)).ex x9)
              have HR9 := Lib.hid (RowJ.ex (HR.out.chg t8 (fun b hb e => by cases hb; exact absurd e.1 (Nat.not_le.2 HRB.out))) x9)
              clear h8 t8 KD HM HX HB HR
              obtain ⟨gc, hgc⟩ : ∃ x, gl.getD c 0 = x := ⟨_, rfl⟩
              have hgk : gc < k := by
                rw [← hgc, List.getD_eq_getElem?_getD]
                cases e : gl[c]? with
                | none => show 0 < k; omega
                | some y => exact HGL.out y (List.mem_of_getElem? e)
              have d1 : w8.heap.size < (w8.alloc (.cells #[.int .i64 (cm.g : Nat), .int .i64 (cm.f : Nat), .int .i64 (cm.pc : Nat), .int .i64 7, .int .i64 cm.v, .bool false] 34)).heap.size := by simp
              have hcw : (wG k gl (i / 2)).set gc la = wG k gl ((i + 1) / 2) := by
                rw [show (i + 1) / 2 = c + 1 by have := hcase2.out; omega, show i / 2 = c by have := hcase2.out; omega, show la = c + 1 by have := hcase2.out; have := HLA.out; omega, wG, hgc]
              have cr : (w8.alloc (.cells #[.int .i64 (cm.g : Nat), .int .i64 (cm.f : Nat), .int .i64 (cm.pc : Nat), .int .i64 7, .int .i64 cm.v, .bool false] 34)).cell? ⟨rb, i * 4 + 1, none⟩ = some (.int .i64 (gc : Nat)) := by
                have hx : (fG gl q)[i]? = some (7, ((gl.getD c 0 : Nat) : Int), 1, 0) := by
                  unfold fG
                  rw [hcase2.out, List.getElem?_append_left (by rw [pG_len]; omega)]
                  exact (pG_at gl q c hcq).2
                have := HR9.out.cell hx
                rw [hgc] at this
                exact this
              have fw := HB9.out.soft gc
              obtain ⟨ov, hov⟩ : ∃ x, (wG k gl (i / 2)).getD gc 0 = x := ⟨_, rfl⟩
              have cw := W_cell HB9.out (i := gc) (by rw [wG_len]; exact hgk) hov
              have n2c : n2 ≤ cap := by
                rcases row_shape HR9.out with ⟨hq, -⟩ | ⟨g', cap', hq, -, -, h7, -⟩
                · cases hq
                · injection hq with _ _ e; rw [fG_len] at h7; omega
              have g1 : (gc : Int) < (k : Int) := by omega
              have g0 : (0 : Int) ≤ (gc : Int) := by omega
              have BZ := HB9.out.put gc (.int .i64 (la : Nat))
              rw [cells_W, hcw] at BZ
              have cZ := Chg.cell (F := fun i => i = mk) (w8.alloc (.cells #[.int .i64 (cm.g : Nat), .int .i64 (cm.f : Nat), .int .i64 (cm.pc : Nat), .int .i64 7, .int .i64 cm.v, .bool false] 34)) ⟨mk, gc, none⟩ (.int .i64 (la : Nat)) rfl
              have HMZ := Lib.hid (HM9.out.mine cZ)
              have HXZ := Lib.hid (ex_put HX9.out HMK.out.1 gc (.int .i64 (la : Nat)))
              have HBZ := Lib.hid BZ
              have HRZ := Lib.hid (HR9.out.chg cZ (fun b hb e => by cases hb; exact HMK.out.2 e))
              clear hgc hov hcw BZ cZ HM9 HX9 HB9 HR9
              go_upto_region 28 with fail
              generalize (w8.alloc (.cells #[.int .i64 (cm.g : Nat), .int .i64 (cm.f : Nat), .int .i64 (cm.pc : Nat), .int .i64 7, .int .i64 cm.v, .bool false] 34)).setCell ⟨mk, gc, none⟩ (.int .i64 (la : Nat)) = WZ at *
              clear cr fw cw d1 x9
              go_wp2_with fail
              have KGl := Lib.hid (mo_globals HMZ.out)
              rw [(gS_facts k gl q (i + 1)).2.2.2 (by omega)] at KGl
              obtain ⟨Wc, hWc⟩ : ∃ Wc, wG k gl ((i + 1) / 2) = Wc := ⟨_, rfl⟩
              have hWl : Wc.length = k := by rw [← hWc]; exact wG_len ..
              rw [hWc] at KGl HBZ
              have HWC := Lib.hid hWc
              unfold RowOut at KGl
              rw [hWl] at KGl
              have HWL := Lib.hid hWl
              clear hWc hWl
              refine KGl.out.mono ?_
              rintro e w10 ⟨u, rfl, hrow, x10⟩
              obtain ⟨ub, uc, rfl, ult, ucap⟩ : ∃ g cap, u = .slice (some ⟨g, 0, none⟩) k cap ∧ g < w10.heap.size ∧ k ≤ cap := by
                rcases row_shape hrow with ⟨-, h2, -⟩ | ⟨g, cap, h1, -, h3, h4, -⟩
                · omega
                · exact ⟨g, cap, h1, h3, h4⟩
              have HRw := Lib.hid hrow
              have HM10 := Lib.hid (HMZ.out.ex x10)
              have HX10 := Lib.hid (HXZ.out.trans x10)
              have HB10 := Lib.hid (HBZ.out.ex x10)
              have HR10 := Lib.hid (HRZ.out.ex x10)
              clear hrow x10 KGl HMZ HXZ HBZ HRZ
              go_wp2_with fail
              go_loopw [16] (fun qv V => ∃ d : Nat, d ≤ k ∧ qv = .int .i64 d ∧ Ex w10 V) (fun qv _ => k - (intOf qv).toNat)
              case atStart => exact ⟨0, Nat.zero_le _, rfl, Ex.refl _⟩
              case round =>
                obtain ⟨d, hd, rfl, hxx⟩ := hrel
                have HXX := Lib.hid hxx
                clear hxx
                by_cases hdk : d < k
                · obtain ⟨y, hy⟩ : ∃ y, Wc.getD d 0 = y := ⟨_, rfl⟩
                  have hdl : d < Wc.length := by rw [HWL.out]; exact hdk
                  have d2 : wr.cell? ⟨mk, d, none⟩ = some (.int .i64 (y : Nat)) := W_cell (HB10.out.ex HXX.out) hdl hy
                  have d3 : wr.cell? ⟨ub, d, none⟩ = some (.int .i64 (y : Nat)) := by
                    refine (HXX.out.cell (p := ⟨ub, d, none⟩) ult).trans ?_
                    have := HRw.out.cellAt d (by omega)
                    rw [this, ← hy]
                    simp [S12.ints, hdl]
                  have p1 : (d : Int) < (k : Int) := by omega
                  have p0 : (0 : Int) ≤ (d : Int) := by omega
                  clear hy hdl
                  go_wp2_with fail
                  go_quiet (fail)
                  go_wp2_with fail
                  go_roundw
                  case rel => exact ⟨d + 1, by omega, by go_num, HXX.out.trans (Ex.drawn _ _)⟩
                  case measure => simp [intOf]; omega
                · obtain rfl : d = k := by omega
                  have p1 : ¬ (d : Int) < (d : Int) := by omega
                  have HF1 := Lib.hid (HM10.out.ex HXX.out)
                  have HF2 := Lib.hid (HX10.out.trans HXX.out)
                  have HF3 := Lib.hid (HB10.out.ex HXX.out)
                  have HF4 := Lib.hid (HR10.out.ex HXX.out)
                  rw [← HWC.out] at HF3
                  clear HM10 HX10 HB10 HR10 HRw HXX
                  go_wp2
                  go_roundw
                  case rel => exact ⟨i + 1, by omega, by go_num, by rw [if_neg (by have := hcase2.out; omega), show (i + 1 + 1) / 2 = la by have := hcase2.out; have := HLA.out; omega], HF1.out, HF2.out, HF4.out, HF3.out⟩
                  case measure => simp [intOf]; omega
          · obtain rfl : i = 2 * q + 1 := by omega
            have q2 : ¬ (2 * (q : Int) + 1) < (n2 : Int) := by omega
            have q3 : ¬ ((2 * q + 1 : Nat) : Int) < (n2 : Int) := by omega
            have hd : (2 * q + 1) / 2 = q := by omega
            rw [hd] at HB
            rw [if_pos rfl]
            obtain ⟨Wc, hWc⟩ : ∃ Wc, wG k gl q = Wc := ⟨_, rfl⟩
            have hWl : Wc.length = k := by rw [← hWc]; exact wG_len ..
            rw [hWc] at HB
            have HWC := Lib.hid hWc
            have HWL := Lib.hid hWl
            clear hd hWc hWl
            go_wp2_with fail
            go_loopw [17, 18] (fun cv qv V => ∃ d : Nat, d ≤ k ∧ qv = .int .i64 d ∧ cv = .int .i64 (nzTo Wc d : Nat) ∧ Ex wr V) (fun _ qv _ => k - (intOf qv).toNat)
            case atStart => exact ⟨0, Nat.zero_le _, rfl, rfl, Ex.refl _⟩
            case round =>
              obtain ⟨d, hd, rfl, rfl, hxx⟩ := hrel
              have HXX := Lib.hid hxx
              clear hxx
              by_cases hdk : d < k
              · obtain ⟨y, hy⟩ : ∃ y, Wc.getD d 0 = y := ⟨_, rfl⟩
                have hdl : d < Wc.length := by rw [HWL.out]; exact hdk
                have d2 : wr.cell? ⟨mk, d, none⟩ = some (.int .i64 (y : Nat)) := W_cell (HB.out.ex HXX.out) hdl hy
                have hs := nz_step Wc d y hdl hy
                have hnz : nzTo Wc d ≤ 100 := by
                  unfold nzTo
                  have := List.length_filter_le (fun x : Nat => decide (x ≠ 0)) (Wc.take d)
                  rw [List.length_take] at this
                  omega
                have p1 : (d : Int) < (k : Int) := by omega
                have p0 : (0 : Int) ≤ (d : Int) := by omega
                obtain ⟨nz, hnz2⟩ : ∃ x, nzTo Wc d = x := ⟨_, rfl⟩
                rw [hnz2] at hs hnz ⊢
                have HS := Lib.hid hs
                clear hy hdl hnz2 hs
                by_cases hy0 : y = 0
                · have hyz : ((y : Int) != 0) = false := by simp [hy0]
                  have HY := Lib.hid hy0
                  clear hy0
                  go_wp2_with fail
                  go_roundw
                  case rel => exact ⟨d + 1, by omega, by go_num, by rw [HS.out, if_pos HY.out]; rfl, HXX.out⟩
                  case measure => simp [intOf]; omega
                · have hyz : ((y : Int) != 0) = true := by simp; omega
                  have e5 : IntKind.i64.wrap ((nz : Int) + 1) = ((nz + 1 : Nat) : Int) := by rw [IntKind.wrap_i64]; omega
                  have HY := Lib.hid hy0
                  clear hy0
                  go_wp2_with fail
                  go_roundw
                  case rel => exact ⟨d + 1, by omega, by go_num, by rw [HS.out, if_neg HY.out]; rfl, HXX.out⟩
                  case measure => simp [intOf]; omega
              · obtain rfl : d = k := by omega
                have p1 : ¬ (d : Int) < (d : Int) := by omega
                have HF1 := Lib.hid (HM.out.ex HXX.out)
                have HF2 := Lib.hid (HX.out.trans HXX.out)
                have hnz : nzTo Wc d = (rchL (gS d gl q (2 * q + 1))).length := by
                  rw [G_reach, HWC.out]
                  unfold nzTo
                  rw [← HWL.out, List.take_length]
                rw [hnz]
                obtain ⟨R, hR⟩ : ∃ R, rchL (gS d gl q (2 * q + 1)) = R := ⟨_, rfl⟩
                rw [hR]
                have HR2 := Lib.hid hR
                clear hR hnz HM HX HXX HB HR
                go_wp2_with fail
                refine (told_any _).mono ?_
                rintro e w11 ⟨rfl, x11⟩
                have HM11 := Lib.hid (HF1.out.ex x11)
                have HX11 := Lib.hid (HF2.out.trans x11)
                have KS := Lib.hid (mo_state HM11.out 0 5 (by unfold gS; rw [if_pos rfl]; rfl))
                have KR := Lib.hid (mo_reach HM11.out (by omega))
                rw [HR2.out] at KR
                unfold RowOut at KR
                clear x11 HF1 HF2
                go_wp2_with fail
                refine KS.out.mono ?_
                rintro e w12 ⟨rfl, rfl⟩
                go_wp2_with fail
                refine KR.out.mono ?_
                rintro e w13 ⟨u, rfl, hrow, x13⟩
                obtain ⟨ua, uc, rfl⟩ := T13.row_val hrow
                have HX13 := Lib.hid (HX11.out.trans x13)
                clear hrow x13 KR KS
                go_wp2_with fail
                go_ret
                exact ⟨rfl, HX13.out⟩

theorem walk_ModelGlobals (a0 : Option Addr) (len0 cap0 : Nat) (zb0 : List Int) (W : World) (wb0 : (a0 = none ∧ len0 = 0 ∧ cap0 = 0 ∧ zb0 = []) ∨ ∃ x, a0 = some x ∧ len0 ≤ cap0 ∧ cap0 ≤ maxLen ∧ zb0.length = cap0 ∧ (∀ i, i < zb0.length → W.cell? (x.add i) = some (.int .i64 (zb0.getD i 0))) ∧ ∀ n ∈ zb0, (Lit.int .i64 n).wf = true) (a1 : Int) (w1 : (Lit.int .i64 a1).wf = true) :
    Calls Try.prog 5 #[.slice a0 len0 cap0, .int .i64 a1] W fun e w' => e = .returned (.bool true) ∧ Below W.heap.size W w' := by
  obtain ⟨h0, h1⟩ := utmod a1 8 (by omega)
  have hv : T13.RowI W (.slice a0 len0 cap0) (zb0.take len0) := by
    rcases wb0 with ⟨rfl, rfl, rfl, rfl⟩ | ⟨⟨b, off, spot⟩, rfl, hl, -, hz, hcell, -⟩
    · exact ⟨none, 0, rfl, fun j hj => absurd hj (Nat.not_lt_zero _)⟩
    · have hlen : (zb0.take len0).length = len0 := by rw [List.length_take, hz]; omega
      refine ⟨some ⟨b, off, spot⟩, cap0, by rw [hlen], fun j hj => ?_⟩
      rw [hlen] at hj
      have hc := hcell j (by omega)
      have hc0 := hcell 0 (by omega)
      have hspot : spot = none := by simpa [Addr.add] using World.cell?_spot hc0
      subst hspot
      rw [Addr.add_lit] at hc
      have hb : b < W.heap.size := by
        simp only [World.cell?] at hc
        by_cases hlt : b < W.heap.size
        · exact hlt
        · simp [Array.getElem?_eq_none (Nat.not_lt.1 hlt)] at hc
      refine ⟨b, off, rfl, hb, ?_⟩
      rw [hc]
      simp [List.getD_eq_getElem?_getD, List.getElem?_take, hj]
  exact globals_walk _ (zb0.take len0) a1 ((IntKind.u64.wrap a1).tmod 8).toNat W hv (by omega) (by omega)

end Go.Proofs.Ytmlobpapjfkbmaa
