/- ModelWakes: who waits longest is woken first; a wake where nobody waits is lost; with all waiting it is stuck. -/
import Derived.Test.YtmlobpapjfkbmaaPWakesP16
namespace Go.Proofs.Ytmlobpapjfkbmaa
open Go.RowKit
set_option linter.unusedVariables false
set_option maxRecDepth 20000
set_option linter.unusedSimpArgs false

def spW : C15.I4 := (8, 1, 0, 0)
def wkW : C15.I4 := (12, 3, 0, 0)
def l1W (i : Nat) : List C15.I4 := List.replicate i spW
def l2W (k i : Nat) : List C15.I4 := List.replicate k spW ++ List.replicate i wkW
theorem l1W_snoc (i : Nat) : l1W i ++ [spW] = l1W (i + 1) := by unfold l1W; rw [List.replicate_succ']
theorem l2W_snoc (k i : Nat) : l2W k i ++ [wkW] = l2W k (i + 1) := by unfold l2W; rw [List.append_assoc, List.replicate_succ' (n := i)]
theorem l2W_zero (k : Nat) : l1W k = l2W k 0 := by unfold l1W l2W; simp
theorem l2W_end (k u : Nat) : l2W k u ++ [(11, 3, 0, 0)] = f0W k u := by unfold l2W f0W; rw [List.append_assoc]; rfl
theorem l1W_len (i : Nat) : (l1W i).length = i := by simp [l1W]
theorem l2W_len (k i : Nat) : (l2W k i).length = k + i := by simp [l2W]
theorem aW_facts (i : Nat) : (aW i).gs.length = i + 1 ∧ (aW i).st.getD 0 0 = 1 ∧ (aW i).sleep = [] := ⟨(wS_len ..).1, rfl, rfl⟩
theorem aW'_facts (i : Nat) : (aW' i).gs.length = i + 2 ∧ (aW' i).st.getD (i + 1) 0 = 1 ∧ (aW' i).sleep = [] := ⟨(wS_len ..).1, by
  have := (wS_at (i + 1) 1 (i + 1) (fset (fun _ => 1) i 0) (fset (fun _ => 3) i 1) (List.range' 1 i) (i := i) (by omega)).2
  exact this.trans (by simp [fset]), rfl⟩
theorem bW_facts (k i : Nat) : (bW k i).gs.length = k + 1 ∧ (bW k i).st.getD 0 0 = 1 ∧ (bW k i).sleep = [] ∧ (∀ j, j < k → j < i → (bW k i).st.getD (j + 1) 0 = 1) := ⟨(wS_len ..).1, rfl, rfl, fun j h1 h2 => by
  have := (wS_at (k + i) 1 k (fun _ => 1) (fun j => if j < i then 1 else 3) (List.range' (i + 1) (k - i)) h1).2
  exact this.trans (if_pos h2)⟩
theorem cW_facts (k u d : Nat) (h : d < min u k) : (cW k u d).gs.length = k + 1 ∧ (cW k u d).st.getD (d + 1) 0 = 1 ∧ (cW k u d).sleep = [] := ⟨(wS_len ..).1, by
  have := (wS_at (k + u + 1) 3 k (fun j => if j < d then 2 else 1) (fun j => if j < d then 5 else if j < u then 1 else 3) (List.range' (u + 1) (k - u) ++ [0]) (i := d) (by omega)).2
  exact this.trans (by rw [if_neg (by omega), if_pos (by omega)]), rfl⟩

set_option maxRecDepth 10000 in
set_option maxHeartbeats 25600000 in
theorem wakes_walk (n m : Int) (j u : Nat) (w : World) (hj : (IntKind.u64.wrap n).tmod 20 = (j : Int)) (hj2 : j < 20) (hu : (IntKind.u64.wrap m).tmod 25 = (u : Int)) (hu2 : u < 25) :
    Calls Try.prog 7 #[.int .i64 n, .int .i64 m] w fun e w' => e = .returned (.bool true) ∧ Below w.heap.size w w' := by
  have e0 : IntKind.i64.wrap (j : Int) = (j : Int) := by rw [IntKind.wrap_i64]; omega
  have e1 : IntKind.i64.wrap (1 + (j : Int)) = ((j + 1 : Nat) : Int) := by rw [IntKind.wrap_i64]; omega
  have e2 : IntKind.i64.wrap (u : Int) = (u : Int) := by rw [IntKind.wrap_i64]; omega
  obtain ⟨k, hk⟩ : ∃ k, j + 1 = k := ⟨_, rfl⟩
  rw [hk] at e1
  have hk1 : 1 ≤ k ∧ k ≤ 20 := by omega
  have HJ := Lib.hid hj
  have HU := Lib.hid hu
  have HK := Lib.hid hk
  clear hk
  go_enter Try.func7, Try.ntmps7
  go_wp2_with fail
  go_loopw [7, 8] (fun v i wr => ∃ j : Nat, j ≤ k ∧ i = .int .i64 j ∧ RowJ wr w.heap.size v (l1W j) ∧ Ex w wr) (fun _ i _ => k - (intOf i).toNat)
  case atStart => exact ⟨0, Nat.zero_le _, rfl, RowJ.nil _ _, Ex.refl _⟩
  case round =>
    obtain ⟨i, hi, rfl, hown, hx⟩ := hrel
    by_cases hlt : i < k
    · have bx := Box.fresh wr #[.int .i64 8, .int .i64 1, .int .i64 0, .int .i64 0] 40
      have x1 := Ex.made wr (.cells #[.int .i64 8, .int .i64 1, .int .i64 0, .int .i64 0] 40)
      have HB := Lib.hid bx
      have HO := Lib.hid (hown.ex x1)
      have HX := Lib.hid (hx.trans x1)
      have hln : (l1W i).length + 1 ≤ 100000 := by rw [l1W_len]; omega
      obtain ⟨N1, hN1⟩ : ∃ N, (l1W (i + 1)).length = N := ⟨_, rfl⟩
      clear bx x1 hown hx
      go_wp2_with (at_builtin; refine wpList_append_insts _ rfl (.tmp 37) (.tmp 39) rfl (B := w.heap.size) (l := l1W i) (M := [spW]) rfl HO.out HX.out.size rfl HB.out rfl rfl (by decide) hln (L := l1W (i + 1)) (l1W_snoc i) hN1 ?_)
      intro g cap w3 h1 h2 h3 h4 h5
      have H1 := Lib.hid h1
      have H2 := Lib.hid (ex_grownJ HO.out HX.out HX.out.size h2)
      clear h1 h2 h3 h4 h5 HO HX HB
      go_wp2
      go_roundw
      case rel => exact ⟨i + 1, by omega, by go_num, H1.out, H2.out⟩
      case measure => simp [intOf]; omega
    · obtain rfl : i = k := by omega
      have e4 : ¬ ((i : Int) < (i : Int)) := by omega
      rw [l2W_zero] at hown
      have HO := Lib.hid hown
      have HX := Lib.hid hx
      clear hown hx
      go_wp2_with fail
      go_loopw [7, 9] (fun v q W => ∃ a : Nat, a ≤ u ∧ q = .int .i64 a ∧ RowJ W w.heap.size v (l2W i a) ∧ Ex w W) (fun _ q _ => u - (intOf q).toNat)
      case atStart => exact ⟨0, Nat.zero_le _, rfl, HO.out, HX.out⟩
      case round =>
        clear HO HX
        obtain ⟨a, ha, rfl, hown, hx⟩ := hrel
        by_cases hlt2 : a < u
        · have bx := Box.fresh wr #[.int .i64 12, .int .i64 3, .int .i64 0, .int .i64 0] 40
          have x1 := Ex.made wr (.cells #[.int .i64 12, .int .i64 3, .int .i64 0, .int .i64 0] 40)
          have HB := Lib.hid bx
          have HO := Lib.hid (hown.ex x1)
          have HX := Lib.hid (hx.trans x1)
          have hln : (l2W i a).length + 1 ≤ 100000 := by rw [l2W_len]; omega
          obtain ⟨N1, hN1⟩ : ∃ N, (l2W i (a + 1)).length = N := ⟨_, rfl⟩
          clear bx x1 hown hx
          go_wp2_with (at_builtin; refine wpList_append_insts _ rfl (.tmp 46) (.tmp 48) rfl (B := w.heap.size) (l := l2W i a) (M := [wkW]) rfl HO.out HX.out.size rfl HB.out rfl rfl (by decide) hln (L := l2W i (a + 1)) (l2W_snoc i a) hN1 ?_)
          intro g cap w3 h1 h2 h3 h4 h5
          have H1 := Lib.hid h1
          have H2 := Lib.hid (ex_grownJ HO.out HX.out HX.out.size h2)
          clear h1 h2 h3 h4 h5 HO HX HB
          go_wp2
          go_roundw
          case rel => exact ⟨a + 1, by omega, by go_num, H1.out, H2.out⟩
          case measure => simp [intOf]; omega
        · obtain rfl : a = u := by omega
          have e5 : ¬ ((a : Int) < (a : Int)) := by omega
          have bx := Box.fresh wr #[.int .i64 11, .int .i64 3, .int .i64 0, .int .i64 0] 40
          have x1 := Ex.made wr (.cells #[.int .i64 11, .int .i64 3, .int .i64 0, .int .i64 0] 40)
          have HB := Lib.hid bx
          have HO := Lib.hid (hown.ex x1)
          have HX := Lib.hid (hx.trans x1)
          have hln : (l2W i a).length + 1 ≤ 100000 := by rw [l2W_len]; omega
          obtain ⟨N1, hN1⟩ : ∃ N, (f0W i a).length = N := ⟨_, rfl⟩
          clear bx x1 hown hx
          go_wp2_with (at_builtin; refine wpList_append_insts _ rfl (.tmp 50) (.tmp 52) rfl (B := w.heap.size) (l := l2W i a) (M := [(11, 3, 0, 0)]) rfl HO.out HX.out.size rfl HB.out rfl rfl (by decide) hln (L := f0W i a) (l2W_end i a) hN1 ?_)
          intro g cap w3 h1 h2 h3 h4 h5
          have H2 := ex_grownJ HO.out HX.out HX.out.size h2
          have b4 := Box.fresh w3 #[.int .i64 11, .int .i64 3, .int .i64 0, .int .i64 0] 40
          have x4 := Ex.made w3 (.cells #[.int .i64 11, .int .i64 3, .int .i64 0, .int .i64 0] 40)
          have hs4 : (w3.alloc (.cells #[.int .i64 11, .int .i64 3, .int .i64 0, .int .i64 0] 40)).heap.size = w3.heap.size + 1 := by simp
          go_wp2_with fail
          generalize w3.alloc (.cells #[.int .i64 11, .int .i64 3, .int .i64 0, .int .i64 0] 40) = W4 at *
          rw [← hs4]
          have b5 := Box.fresh W4 #[.slice (some ⟨g, 0, none⟩) N1 cap, .slice (some ⟨w3.heap.size, 0, none⟩) 1 1] 42
          have x5 := Ex.made W4 (.cells #[.slice (some ⟨g, 0, none⟩) N1 cap, .slice (some ⟨w3.heap.size, 0, none⟩) 1 1] 42)
          generalize W4.alloc (.cells #[.slice (some ⟨g, 0, none⟩) N1 cap, .slice (some ⟨w3.heap.size, 0, none⟩) 1 1] 42) = W5 at *
          have hp : C15.RdP W5 (.slice (some ⟨W4.heap.size, 0, none⟩) 2 2) (FW i a) := by
            refine rdP_box (F := FW i a) (cap := 2) (lv := fun q => if q = 0 then .slice (some ⟨g, 0, none⟩) N1 cap else .slice (some ⟨w3.heap.size, 0, none⟩) 1 1) b5 (by simp [FW]) (fun q hq => ?_)
            have : q = 0 ∨ q = 1 := by have : q < 2 := hq; omega
            rcases this with rfl | rfl
            · exact ((h1.ex x4).ex x5).rd
            · exact rdI_box (l := [(11, 3, 0, 0)]) (cap := 1) (b4.ex x5) (by simp)
          have HX5 := Lib.hid (Ex.trans H2 (x4.trans x5))
          have HB5 : Hid (w.heap.size ≤ W5.heap.size) := Lib.hid HX5.out.size
          refine (build_any (gn := 0) hp (Ex.refl _) (may_W i (by omega) a (by omega))).mono ?_
          rintro e w6 ⟨mb, rfl, h6, x6⟩
          have HM6 := Lib.hid h6
          have HX6 := Lib.hid (HX5.out.trans x6)
          clear hp h1 h2 h3 h4 h5 H2 b4 x4 hs4 b5 x5 h6 x6 HX5 HO HX HB hN1
          go_wp2_with fail
          go_loopw [11] (fun q W => ∃ c : Nat, c ≤ i ∧ q = .int .i64 c ∧ Mo W5.heap.size (fun _ => False) W mb (FW i a) 0 (2 * c) (aW c) ∧ Ex w W) (fun q _ => i - (intOf q).toNat)
          case atStart => exact ⟨0, Nat.zero_le _, rfl, HM6.out, HX6.out⟩
          case round =>
            clear HM6 HX6
            obtain ⟨c, hc, rfl, hm, hx⟩ := hrel
            have HM := Lib.hid hm
            have HX := Lib.hid hx
            clear hm hx
            by_cases hlt3 : c < i
            · obtain ⟨f1, f2, f3⟩ := aW_facts c
              obtain ⟨s1, s2⟩ := aW_1 (u := a) hlt3 hk1.2
              have KD := Lib.hid (mo_do HM.out (by omega) (by rw [f3]; decide) (g := 0) (by rw [f1]; omega) f2)
              rw [s1] at KD
              unfold cmV at KD
              rw [s2] at KD
              obtain ⟨cm, hcm⟩ : ∃ cm, tells (FW i a) (aW c) 0 = cm := ⟨_, rfl⟩
              rw [hcm, show ((0 : Nat) : Int) = 0 from rfl] at KD
              have e6 : IntKind.i64.wrap ((c : Int) + 1) = ((c + 1 : Nat) : Int) := by rw [IntKind.wrap_i64]; omega
              clear f1 f2 f3 s1 s2 hcm
              go_wp2_with fail
              refine KD.out.mono ?_
              rintro e w7 ⟨rfl, h7, t7⟩
              have x8 := Ex.made w7 (.cells #[.int .i64 (cm.g : Nat), .int .i64 (cm.f : Nat), .int .i64 (cm.pc : Nat), .int .i64 cm.op, .int .i64 ((c + 1 : Nat) : Int), .bool cm.bad] 34)
              have HM8 := Lib.hid (h7.ex x8)
              have HX8 := Lib.hid ((t7.go HX.out HB5.out).trans x8)
              obtain ⟨c1, hc1⟩ : ∃ q, c + 1 = q := ⟨_, rfl⟩
              rw [hc1] at e6 x8 HM8 HX8 ⊢
              have HC1 := Lib.hid hc1
              clear h7 t7 KD HM HX hc1
              go_wp2_with fail
              generalize w7.alloc (.cells #[.int .i64 (cm.g : Nat), .int .i64 (cm.f : Nat), .int .i64 (cm.pc : Nat), .int .i64 cm.op, .int .i64 (c1 : Int), .bool cm.bad] 34) = W8 at *
              obtain ⟨f1, f2, f3⟩ := aW'_facts c
              have KD := Lib.hid (mo_do HM8.out (by omega) (by rw [f3]; decide) (g := c + 1) (by rw [f1]; omega) f2)
              rw [aW_2] at KD
              unfold cmV at KD
              obtain ⟨cn, hcn⟩ : ∃ cm, tells (FW i a) (aW' c) (c + 1) = cm := ⟨_, rfl⟩
              rw [hcn, HC1.out] at KD
              clear f1 f2 f3 hcn x8
              refine KD.out.mono ?_
              rintro e w9 ⟨rfl, h9, t9⟩
              have HM9 := Lib.hid h9
              have HX9 := Lib.hid (t9.go HX8.out HB5.out)
              rw [show 2 * c + 1 + 1 = 2 * c1 by have := HC1.out; omega] at HM9
              clear h9 t9 KD HM8 HX8
              go_wp2_with fail
              go_roundw
              case rel => exact ⟨c1, by have := HC1.out; omega, by have := HC1.out; go_num, HM9.out.ex (Ex.made _ _), HX9.out.trans (Ex.made _ _)⟩
              case measure => have := HC1.out; simp [intOf]; omega
            · obtain rfl : c = i := by omega
              have e6 : ¬ ((c : Int) < (c : Int)) := by omega
              rw [bW_0] at HM
              go_wp2_with fail
              go_loopw [16] (fun q W => ∃ d : Nat, d ≤ a ∧ q = .int .i64 d ∧ Mo W5.heap.size (fun _ => False) W mb (FW c a) 0 (2 * c + d) (bW c d) ∧ Ex w W) (fun q _ => a - (intOf q).toNat)
              case atStart => exact ⟨0, Nat.zero_le _, rfl, HM.out, HX.out⟩
              case round =>
                clear HM HX
                obtain ⟨d, hd, rfl, hm, hx⟩ := hrel
                have HM := Lib.hid hm
                have HX := Lib.hid hx
                clear hm hx
                by_cases hlt4 : d < a
                · obtain ⟨f1, f2, f3, -⟩ := bW_facts c d
                  obtain ⟨s1, s2⟩ := bW_1 (k := c) hlt4
                  have KD := Lib.hid (mo_do HM.out (by omega) (by rw [f3]; decide) (g := 0) (by rw [f1]; omega) f2)
                  rw [s1] at KD
                  unfold cmV at KD
                  rw [s2] at KD
                  obtain ⟨cm, hcm⟩ : ∃ cm, tells (FW c a) (bW c d) 0 = cm := ⟨_, rfl⟩
                  rw [hcm, show ((0 : Nat) : Int) = 0 from rfl] at KD
                  have e7 : IntKind.i64.wrap ((d : Int) + 1) = ((d + 1 : Nat) : Int) := by rw [IntKind.wrap_i64]; omega
                  obtain ⟨d1, hd1⟩ : ∃ q, d + 1 = q := ⟨_, rfl⟩
                  rw [hd1] at e7 KD
                  have HD1 := Lib.hid hd1
                  clear f1 f2 f3 s1 s2 hcm hd1
                  by_cases hdc : d < c
                  · rw [if_pos hdc] at KD
                    have hdc2 : (d : Int) < (c : Int) := by omega
                    have hpos : (0 : Int) < (d1 : Int) := by have := HD1.out; omega
                    have hne : ¬ ((d1 : Int) ≤ 0) := by omega
                    go_wp2_with fail
                    refine KD.out.mono ?_
                    rintro e w7 ⟨rfl, h7, t7⟩
                    have x8 := Ex.made w7 (.cells #[.int .i64 (cm.g : Nat), .int .i64 (cm.f : Nat), .int .i64 (cm.pc : Nat), .int .i64 cm.op, .int .i64 (d1 : Int), .bool cm.bad] 34)
                    have HM8 := Lib.hid (h7.ex x8)
                    have HX8 := Lib.hid ((t7.go HX.out HB5.out).trans x8)
                    have KS := Lib.hid (mo_state HM8.out d1 1 (by rw [← HD1.out]; exact (bW_facts c (d + 1)).2.2.2 d hdc (by omega)))
                    clear h7 t7 KD HM HX x8
                    go_wp2_with fail
                    generalize w7.alloc (.cells #[.int .i64 (cm.g : Nat), .int .i64 (cm.f : Nat), .int .i64 (cm.pc : Nat), .int .i64 cm.op, .int .i64 (d1 : Int), .bool cm.bad] 34) = W8 at *
                    refine KS.out.mono ?_
                    rintro e w9 ⟨rfl, rfl⟩
                    go_wp2_with fail
                    go_roundw
                    case rel => exact ⟨d1, by have := HD1.out; omega, by have := HD1.out; go_num, by rw [show 2 * c + d1 = 2 * c + d + 1 by have := HD1.out; omega]; exact HM8.out, HX8.out⟩
                    case measure => have := HD1.out; simp [intOf]; omega
                  · rw [if_neg hdc] at KD
                    have hdc2 : ¬ (d : Int) < (c : Int) := by omega
                    go_wp2_with fail
                    refine KD.out.mono ?_
                    rintro e w7 ⟨rfl, h7, t7⟩
                    have x8 := Ex.made w7 (.cells #[.int .i64 (cm.g : Nat), .int .i64 (cm.f : Nat), .int .i64 (cm.pc : Nat), .int .i64 cm.op, .int .i64 (-1), .bool cm.bad] 34)
                    have HM8 := Lib.hid (h7.ex x8)
                    have HX8 := Lib.hid ((t7.go HX.out HB5.out).trans x8)
                    clear h7 t7 KD HM HX x8
                    go_wp2_with fail
                    go_roundw
                    case rel => exact ⟨d1, by have := HD1.out; omega, by have := HD1.out; go_num, by rw [show 2 * c + d1 = 2 * c + d + 1 by have := HD1.out; omega]; exact HM8.out, HX8.out⟩
                    case measure => have := HD1.out; simp [intOf]; omega
                · obtain rfl : d = a := by omega
                  have e7 : ¬ ((d : Int) < (d : Int)) := by omega
                  obtain ⟨f1, f2, f3, -⟩ := bW_facts c d
                  have KD := Lib.hid (mo_do HM.out (by omega) (by rw [f3]; decide) (g := 0) (by rw [f1]; omega) f2)
                  rw [cW_0] at KD
                  unfold cmV at KD
                  obtain ⟨cm, hcm⟩ : ∃ cm, tells (FW c d) (bW c d) 0 = cm := ⟨_, rfl⟩
                  rw [hcm, show ((0 : Nat) : Int) = 0 from rfl] at KD
                  clear f1 f2 f3 hcm
                  obtain ⟨mn, hmn⟩ : ∃ q, min d c = q := ⟨_, rfl⟩
                  have hmi : min (d : Int) (c : Int) = (mn : Int) := by omega
                  have HMN := Lib.hid hmn
                  clear hmn
                  go_wp2_with fail
                  refine KD.out.mono ?_
                  rintro e w7 ⟨rfl, h7, t7⟩
                  have x8 := Ex.made w7 (.cells #[.int .i64 (cm.g : Nat), .int .i64 (cm.f : Nat), .int .i64 (cm.pc : Nat), .int .i64 cm.op, .int .i64 cm.v, .bool cm.bad] 34)
                  have HM8 := Lib.hid (h7.ex x8)
                  have HX8 := Lib.hid ((t7.go HX.out HB5.out).trans x8)
                  clear h7 t7 KD HM HX x8
                  go_wp2_with fail
                  go_loopw [22] (fun q W => ∃ p : Nat, p ≤ mn ∧ q = .int .i64 ((p + 1 : Nat) : Int) ∧ Mo W5.heap.size (fun _ => False) W mb (FW c d) 0 (2 * c + d + 1 + p) (cW c d p) ∧ Ex w W) (fun q _ => mn + 1 - (intOf q).toNat)
                  case atStart => exact ⟨0, Nat.zero_le _, rfl, HM8.out, HX8.out⟩
                  case round =>
                    clear HM8 HX8
                    obtain ⟨p, hp, rfl, hm, hx⟩ := hrel
                    have HM := Lib.hid hm
                    have HX := Lib.hid hx
                    clear hm hx
                    by_cases hlt5 : p < mn
                    · obtain ⟨f1, f2, f3⟩ := cW_facts c d p (by rw [HMN.out]; exact hlt5)
                      have KD := Lib.hid (mo_do HM.out (by have := HMN.out; omega) (by rw [f3]; decide) (g := p + 1) (by rw [f1]; have := HMN.out; omega) f2)
                      rw [cW_1 (by rw [HMN.out]; exact hlt5)] at KD
                      have e8 : ((p + 1 : Nat) : Int) ≤ (mn : Int) := by omega
                      obtain ⟨p1, hp1⟩ : ∃ q, p + 1 = q := ⟨_, rfl⟩
                      rw [hp1] at e8 KD ⊢
                      have HP1 := Lib.hid hp1
                      have hb1 : p1 ≤ 1000 := by have := HMN.out; omega
                      clear f1 f2 f3 hp1
                      go_wp2_with fail
                      refine KD.out.mono ?_
                      rintro e w9 ⟨rfl, h9, t9⟩
                      have HM9 := Lib.hid h9
                      have HX9 := Lib.hid (t9.go HX.out HB5.out)
                      clear h9 t9 KD HM HX
                      go_wp2_with fail
                      go_roundw
                      case rel => exact ⟨p1, by have := HP1.out; omega, by go_num, by rw [show 2 * c + d + 1 + p1 = 2 * c + d + 1 + p + 1 by have := HP1.out; omega]; exact HM9.out, HX9.out⟩
                      case measure => have := HP1.out; simp [intOf]; omega
                    · obtain rfl : p = mn := by omega
                      have e8 : ¬ (((p + 1 : Nat) : Int) ≤ (p : Int)) := by omega
                      have hms := cW_stuck c d
                      rw [HMN.out] at hms
                      go_wp2_with fail
                      refine (told_any _).mono ?_
                      rintro e w9 ⟨rfl, x9⟩
                      have HM9 := Lib.hid (HM.out.ex x9)
                      have HX9 := Lib.hid (HX.out.trans x9)
                      have KT := Lib.hid (mo_stuck HM9.out (by omega))
                      rw [hms] at KT
                      clear HM HX x9 hms
                      go_wp2_with fail
                      refine KT.out.mono ?_
                      rintro e w10 ⟨rfl, rfl⟩
                      go_wp2_with fail
                      go_ret
                      exact ⟨rfl, HX9.out⟩

theorem walk_ModelWakes (a0 a1 : Int) (w0 : (Lit.int .i64 a0).wf = true) (w1 : (Lit.int .i64 a1).wf = true) (w : World) :
    Calls Try.prog 7 #[.int .i64 a0, .int .i64 a1] w fun e w' => e = .returned (.bool true) ∧ Below w.heap.size w w' := by
  obtain ⟨h0, h1⟩ := utmod a0 20 (by omega)
  obtain ⟨h2, h3⟩ := utmod a1 25 (by omega)
  exact wakes_walk a0 a1 ((IntKind.u64.wrap a0).tmod 20).toNat ((IntKind.u64.wrap a1).tmod 25).toNat w (by omega) (by omega) (by omega) (by omega)

end Go.Proofs.Ytmlobpapjfkbmaa
