/- CodeBack. -/
import Derived.Test.YtmajnjbjoagihaaLawM15
import Derived.Test.YtmajnjbjoagihaaBackP15
namespace Go.Proofs.Ytmajnjbjoagihaa
open Go.RowKit
set_option linter.unusedVariables false
set_option linter.unusedSimpArgs false

/-- An own row of bytes, or a part of it from its beginning. -/
theorem bs_row {w : World} {base r n c : Nat} {bs : List Int} (h : w.ownsRow base 5 1 (.slice (some ⟨r, 0, none⟩) n c) n (bV bs)) (hn : bs.length = n) (hl : n ≤ 100000) (hb : ∀ x ∈ bs, 0 ≤ x ∧ x < 256) : Bs w (.slice (some ⟨r, 0, none⟩) n c) bs := by
  subst hn
  have hs := row_base h r rfl
  have hc : bs.length ≤ c := by
    rcases row_shape h with ⟨h1, -⟩ | ⟨g, cap, h1, -, -, h4, -⟩
    · cases h1
    · cases h1; exact h4
  refine ⟨hl, hb, .inr ⟨r, 0, c, rfl, hs.2, hc, fun i hi => ?_⟩⟩
  rw [World.ownsRow.cellAt h (0 + i) (by omega), Nat.zero_add]
  simp [bV, hi]
theorem bs_cut {w : World} {r n c m : Nat} {bs : List Int} (h : Bs w (.slice (some ⟨r, 0, none⟩) n c) bs) (hn : bs.length = n) (hm : m ≤ n) (hlt : r < w.heap.size) : Bs w (.slice (some ⟨r, 0, none⟩) m c) (bs.take m) := by
  subst hn
  have hlen : (bs.take m).length = m := by simp; omega
  rcases h.is with ⟨-, h2⟩ | ⟨g, o, cap, h1, h2, h3, h4⟩
  · subst h2
    have : m = 0 := by simp at hm; omega
    subst this
    exact ⟨by simp, by simp, .inl ⟨⟨_, _, rfl⟩, rfl⟩⟩
  · cases h1
    refine ⟨by have := h.len; omega, fun x hx => h.ok x (List.mem_of_mem_take hx), .inr ⟨r, 0, c, by rw [hlen], h2, by omega, fun i hi => ?_⟩⟩
    rw [h4 i (by omega)]
    simp

set_option maxRecDepth 20000 in
set_option maxHeartbeats 12800000 in
theorem walk_CodeBack {w : World} {g : Int} {fv : Value} {F : List (List I4)} (ch : Int) (h : RdP w fv F) (hF : F.length ≤ maxLen) (hch : (Lit.int .u8 ch).wf = true) :
    Calls Try.prog 7 #[.agg #[.int .i64 g, fv], .int .u8 ch] w fun e w' => e = .returned (.bool true) ∧ Below w.heap.size w w' := by
  have hc1 : 0 ≤ ch ∧ ch < 256 := by
    simp [Lit.wf, IntKind.min, IntKind.max, IntKind.signed, IntKind.bits] at hch
    omega
  obtain ⟨hc1, hc2⟩ := hc1
  obtain ⟨fa, cap, rfl⟩ := h.val
  have HP := Lib.hid h
  have GR := Lib.hid (fun (W : World) (k : RdP W (.slice fa F.length cap) F) => great_any (g := g) k hF)
  have EA := Lib.hid (fun (W : World) (k : RdP W (.slice fa F.length cap) F) => encode_any (g := g) k)
  have MA := Lib.hid (fun (W : World) (k : RdP W (.slice fa F.length cap) F) => may_any (g := g) k)
  clear h hF hch
  obtain ⟨m, hm⟩ : ∃ m, mayI g F = m := ⟨_, rfl⟩
  rw [hm] at MA
  have HM := Lib.hid hm
  clear hm
  go_enter Try.func7, Try.ntmps7
  go_upto_region 1 with fail
  have e0 := Ex.made w (.cells #[.int .i64 g, .slice fa F.length cap] 24)
  have b0 := Box.fresh w #[.int .i64 g, .slice fa F.length cap] 24
  obtain ⟨W, hW⟩ : ∃ W, W = w.alloc (.cells #[.int .i64 g, .slice fa F.length cap] 24) := ⟨_, rfl⟩
  rw [← hW] at e0 b0 ⊢
  have E0 := Lib.hid e0
  have B0 := Lib.hid b0
  clear hW e0 b0
  have x0 : W.cell? ⟨w.heap.size, 0, none⟩ = some (.int .i64 g) := B0.out.cell 0
  have x1 : W.cell? ⟨w.heap.size, 1, none⟩ = some (.slice fa F.length cap) := B0.out.cell 1
  go_wp2_with fail
  refine (GR.out W (HP.out.ex E0.out)).mono ?_
  rintro e w1 ⟨⟨t, rfl⟩, hx⟩
  have E1 := Lib.hid (E0.out.trans hx)
  have b1 := B0.out.ex hx
  have B1 := Lib.hid b1
  clear x0 x1 hx E0 B0
  cases t
  rotate_left
  · clear b1
    go_wp2_with fail
    refine (told_any w1).mono ?_
    rintro e w2 ⟨rfl, hx⟩
    have E2 := Lib.hid (E1.out.trans hx)
    clear hx
    go_wp2_with fail
    go_ret
    exact ⟨rfl, E2.out⟩
  have x0 : w1.cell? ⟨w.heap.size, 0, none⟩ = some (.int .i64 g) := b1.cell 0
  have x1 : w1.cell? ⟨w.heap.size, 1, none⟩ = some (.slice fa F.length cap) := b1.cell 1
  clear b1
  go_wp2_with fail
  refine (EA.out w1 (HP.out.ex E1.out)).mono ?_
  rintro e w2 (⟨h0, v, rfl, hrow, hx⟩ | ⟨h0, rfl, hx⟩)
  rotate_left
  · have E2 := Lib.hid (E1.out.trans hx)
    have b2 := B1.out.ex hx
    have hm0 : (m == 0) = false := by
      have := HM.out
      rw [this] at h0
      simpa using h0
    clear x0 x1 hx E1 B1 h0
    have x0 : w2.cell? ⟨w.heap.size, 0, none⟩ = some (.int .i64 g) := b2.cell 0
    have x1 : w2.cell? ⟨w.heap.size, 1, none⟩ = some (.slice fa F.length cap) := b2.cell 1
    clear b2
    go_wp2_with fail
    refine (MA.out w2 (HP.out.ex E2.out)).mono ?_
    rintro e w3 ⟨rfl, hx⟩
    have E3 := Lib.hid (E2.out.trans hx)
    clear x0 x1 hx
    go_wp2_with fail
    refine (told_any w3).mono ?_
    rintro e w4 ⟨rfl, hx⟩
    have E4 := Lib.hid (E3.out.trans hx)
    clear hx
    go_wp2_with fail
    go_ret
    exact ⟨rfl, E4.out⟩
  have mb := may_zero h0
  obtain rfl : m = 0 := by rw [← HM.out]; exact h0
  obtain ⟨l7, l8⟩ := encB_length mb
  have HD1 : decD (encB g F) = .ok (g, F) := by
    have := dec_enc mb []
    rw [List.append_nil, if_pos rfl] at this
    exact this
  have HD2 := dec_short mb
  have HD3 : ∀ c, decD (encB g F ++ [c]) = .error (encB g F).length := fun c => by
    have := dec_enc mb [c]
    rw [if_neg (by simp)] at this
    exact this
  have hby := encB_bytes mb
  have hF1 : F.length ≤ 1000 := by have := mb.n2; omega
  have hF2 : ∀ l ∈ F, l.length ≤ 1000 := fun l hl => by have := (mb.l1 l hl).2; omega
  have SA := Lib.hid (fun (W : World) (fa fb : Value) (h : RdP W fa F) (k : RdP W fb F) => same_any (g := g) h k hF1 hF2)
  generalize encB g F = bs at *
  obtain ⟨rb, rc, rfl⟩ : ∃ r c, v = .slice (some ⟨r, 0, none⟩) bs.length c := by
    rcases row_shape hrow with ⟨-, h2, -⟩ | ⟨r, c, h1, -⟩
    · omega
    · exact ⟨r, c, h1⟩
  have hrc : bs.length ≤ rc ∧ rc ≤ maxLen := by
    rcases row_shape hrow with ⟨h1, -⟩ | ⟨g, cap, h1, -, -, h4, h5⟩
    · cases h1
    · cases h1; exact ⟨h4, h5⟩
  obtain ⟨hrc, hrm⟩ := hrc
  have hrl := (row_base hrow rb rfl).2
  have E2 := Lib.hid (E1.out.trans hx)
  have b2 := B1.out.ex hx
  have B2 := Lib.hid b2
  have bs0 := bs_row hrow rfl (by omega) hby
  have BS := Lib.hid bs0
  have ROW := Lib.hid hrow
  have HDA := Lib.hid HD1
  have HDB := Lib.hid HD2
  have HDC := Lib.hid HD3
  have HBY := Lib.hid hby
  have q7 : (7 : Int) ≤ (bs.length : Int) := by omega
  have q8 : (bs.length : Int) ≤ 5000 := by omega
  have q9 : (bs.length : Int) ≤ (rc : Int) := by omega
  have HRM := Lib.hid hrm
  clear x0 x1 hx E1 B1 h0 HD1 HD2 HD3 hby hF1 hF2 mb bs0 hrow hrm EA GR
  have x0 : w2.cell? ⟨w.heap.size, 0, none⟩ = some (.int .i64 g) := b2.cell 0
  have x1 : w2.cell? ⟨w.heap.size, 1, none⟩ = some (.slice fa F.length cap) := b2.cell 1
  clear b2
  go_wp2_with fail
  refine (MA.out w2 (HP.out.ex E2.out)).mono ?_
  rintro e w3 ⟨rfl, hx⟩
  have X3 := Lib.hid hx
  clear x0 x1 hx
  go_wp2_with fail
  refine (decode_any (BS.out.ex X3.out)).mono ?_
  rintro e w4 hd
  rw [HDA.out] at hd
  obtain ⟨⟨qv, rfl, hR⟩, hx⟩ := hd
  obtain ⟨qa, qc, rfl⟩ := hR.val
  have X4 := Lib.hid (X3.out.trans hx)
  have R4 := Lib.hid hR
  clear hx hR X3
  go_upto_region 11 with fail
  have e5 := Ex.made w4 (.cells #[.int .i64 g, .slice qa F.length qc] 24)
  have n5 := Box.fresh w4 #[.int .i64 g, .slice qa F.length qc] 24
  have R5 := Lib.hid (R4.out.ex e5)
  have X5 := Lib.hid (X4.out.trans e5)
  obtain ⟨qb, hqb⟩ : ∃ b, w4.heap.size = b := ⟨_, rfl⟩
  rw [hqb] at n5 ⊢
  obtain ⟨V, hV⟩ : ∃ W, W = w4.alloc (.cells #[.int .i64 g, .slice qa F.length qc] 24) := ⟨_, rfl⟩
  rw [← hV] at e5 n5 R5 X5 ⊢
  have N5 := Lib.hid n5
  clear hV hqb e5 n5 R4 X4
  have hmb : (((bs.length - 1 : Nat) : Int) == (bs.length : Int) - 1) = true := by simp; omega
  have hdl : bs.dropLast = bs.take (bs.length - 1) := List.dropLast_eq_take
  have HMB := Lib.hid hmb
  have b5 := bs_cut (BS.out.ex X5.out) rfl (show bs.length - 1 ≤ bs.length by omega) (Nat.lt_of_lt_of_le hrl X5.out.size)
  rw [← hdl] at b5
  have B5 := Lib.hid b5
  clear hdl hmb b5
  go_wp2_with fail
  refine (decode_any B5.out).mono ?_
  rintro e w6 hd
  rw [HDB.out] at hd
  obtain ⟨rfl, hx⟩ := hd
  have X6 := Lib.hid (X5.out.trans hx)
  have R6 := Lib.hid (R5.out.ex hx)
  have N6 := Lib.hid (N5.out.ex hx)
  clear hx X5 R5 N5 B5
  go_upto_region 12 with fail
  have e7 := Ex.made w6 (.cells #[.int .i64 0, .slice none 0 0] 24)
  have R7 := Lib.hid (R6.out.ex e7)
  have N7 := Lib.hid (N6.out.ex e7)
  have X7 := Lib.hid (X6.out.trans e7)
  obtain ⟨U, hU⟩ : ∃ W, W = w6.alloc (.cells #[.int .i64 0, .slice none 0 0] 24) := ⟨_, rfl⟩
  rw [← hU] at e7 R7 N7 X7 ⊢
  clear hU e7 R6 N6 X6
  have hzz : w.heap.size + 1 ≤ U.heap.size := by
    have h1 := (B2.out.ex X7.out).lt
    omega
  have row0 := row_block U (base := U.heap.size) (e := 5) #[] 0 rfl (Nat.le_refl _) (by unfold maxLen; omega)
  have hnews : ∀ (j : Nat) (u : Value), (bV bs)[j]? = some u → (U.alloc (.cells #[] 5)).cell? ((⟨rb, 0, none⟩ : Addr).add j) = some u := by
    intro j u hj
    have hjl : j < (bV bs).length := (List.getElem?_eq_some_iff.1 hj).1
    rw [bV_length] at hjl
    rw [add_plain, Nat.zero_add]
    refine cell_later (X7.out.trans (Ex.made U _)) ?_
    rw [World.ownsRow.cellAt ROW.out j (by omega)]
    exact hj
  have hone : ∀ u ∈ bV bs, u.oneCell' = true := by
    intro u hu
    unfold bV at hu
    obtain ⟨x, -, rfl⟩ := List.mem_map.1 hu
    rfl
  obtain ⟨i0, hi', hz0, hz1, hz2⟩ := info_parts info_u8
  go_wp2_with (at_builtin; refine wpList_append_mine _ rfl (.tmp 58) (.tmp 59) 25 rfl U.heap.size 5 i0 (.int .u8 0) 1 1 Try.underlying25 hi' hz0 hz1 hz2 rfl (by decide) _ _ _ rfl row0 ⟨rb, 0, none⟩ bs.length rc (bV bs) rfl (by rw [bV_length, Nat.mul_one]) hnews hone (by unfold maxLen; omega) (by omega) (row_alloc_base U _ (Nat.le_refl _)) (by omega) ?_)
  intro g1 cap1 w8 hown hgrow hor hbg hlt1 hc1' hc3
  try simp only [Nat.zero_add, List.nil_append] at hown
  try simp only [Nat.zero_add] at hc1'
  have C8 : Hid (Ex U w8) := Lib.hid (by
    have c := Chg.trans ((Ex.made U (.cells #[] 5)).chg (fun k => U.heap.size ≤ k)) (Chg.grown (F := fun k => U.heap.size ≤ k) hgrow (fun k hk => by cases hk; exact Nat.le_refl _)) (fun _ _ h => h)
    exact c.below (Nat.le_refl _) (fun _ h => h))
  have hz8 : U.heap.size ≤ w8.heap.size := C8.out.size
  have ROW8 := Lib.hid hown
  clear hown hgrow hor hnews hone row0
  go_wp2_with (at_builtin; refine wpList_append_mine _ rfl (.tmp 60) (.tmp 62) 25 rfl U.heap.size 5 i0 (.int .u8 0) 1 1 Try.underlying25 hi' hz0 hz1 hz2 rfl (by decide) _ _ _ rfl (ROW8.out.alloc _) ⟨w8.heap.size, 0, none⟩ 1 1 [.int .u8 ch] rfl rfl (one_new _ _ _) (one_cell rfl) (by unfold maxLen; omega) (by omega) (row_alloc_base w8 _ (by omega)) (by omega) ?_)
  intro g2 cap2 w9 hown hgrow hor hbg2 hlt2 hc12 hc32
  have C9 : Hid (Ex U w9) := Lib.hid (by
    have c := Chg.trans ((Ex.made w8 (.cells #[.int .u8 ch] 5)).chg (fun k => U.heap.size ≤ k)) (Chg.grown (F := fun k => U.heap.size ≤ k) hgrow (fun k hk => (row_base ROW8.out k hk).1)) (fun _ _ h => h)
    exact Below.trans C8.out (c.below C8.out.size (fun _ h => h)))
  have e9 : bV bs ++ [.int .u8 ch] = bV (bs ++ [ch]) := by rw [bV_append]; rfl
  rw [e9] at hown
  have bs9 := bs_row hown (by simp) (by omega) (fun x hx => by
    simp only [List.mem_append, List.mem_singleton] at hx
    rcases hx with hx | rfl
    · exact HBY.out x hx
    · exact ⟨hc1, hc2⟩)
  have BS9 := Lib.hid bs9
  clear hown hgrow hor hi' hz0 hz1 hz2 bs9 e9 hbg hlt1 hc1' hc3 hbg2 hlt2 hc12 hc32 C8 ROW8 hz8
  go_wp2_with fail
  refine (decode_any BS9.out).mono ?_
  rintro e w10 hd
  rw [HDC.out] at hd
  obtain ⟨rfl, hx⟩ := hd
  have X10 := Lib.hid (X7.out.trans (C9.out.trans hx))
  have R10 := Lib.hid (R7.out.ex (C9.out.trans hx))
  have N10 := Lib.hid (N7.out.ex (C9.out.trans hx))
  clear hx X7 R7 N7 C9 BS9
  go_upto_region 13 with fail
  have e7 := Ex.made w10 (.cells #[.int .i64 0, .slice none 0 0] 24)
  have R11 := Lib.hid (R10.out.ex e7)
  have N11 := Lib.hid (N10.out.ex e7)
  have X11 := Lib.hid (X10.out.trans e7)
  obtain ⟨T, hT⟩ : ∃ W, W = w10.alloc (.cells #[.int .i64 0, .slice none 0 0] 24) := ⟨_, rfl⟩
  rw [← hT] at e7 R11 N11 X11 ⊢
  clear hT e7 R10 N10 X10
  go_wp2_with fail
  refine (told_any T).mono ?_
  rintro e w12 ⟨rfl, hx⟩
  have X12 := Lib.hid (E2.out.trans (X11.out.trans hx))
  have R12 := Lib.hid (R11.out.ex hx)
  have n12 := N11.out.ex hx
  have p12 := B2.out.ex (X11.out.trans hx)
  have x0 : w12.cell? ⟨w.heap.size, 0, none⟩ = some (.int .i64 g) := p12.cell 0
  have x1 : w12.cell? ⟨w.heap.size, 1, none⟩ = some (.slice fa F.length cap) := p12.cell 1
  have y0 : w12.cell? ⟨qb, 0, none⟩ = some (.int .i64 g) := n12.cell 0
  have y1 : w12.cell? ⟨qb, 1, none⟩ = some (.slice qa F.length qc) := n12.cell 1
  have hmb := HMB.out
  clear hx X11 R11 N11 n12 p12
  go_wp2_with fail
  refine (SA.out w12 _ _ (HP.out.ex X12.out) R12.out).mono ?_
  rintro e w13 ⟨rfl, hx⟩
  have X13 := Lib.hid (X12.out.trans hx)
  clear hx x0 x1 y0 y1
  go_wp2_with fail
  go_ret
  exact ⟨by simp, X13.out⟩

end Go.Proofs.Ytmajnjbjoagihaa
