/- ModelLists: a list that is made node by node is there as long as its head is, and gone with it. -/
import Derived.Test.YtmlobpapjfkbmaaPListsP16
namespace Go.Proofs.Ytmlobpapjfkbmaa
open Go.RowKit
set_option linter.unusedVariables false
set_option maxRecDepth 20000
set_option linter.unusedSimpArgs false

def at2L (k i : Nat) : MS := if i ≤ 3 * k then atL k i else stL (3 * k + 1) k 0 (objsL k)
theorem at2_step {k i : Nat} (h : i < 3 * k + 1) : stepM [progL k] (at2L k i) 0 = at2L k (i + 1) ∧ (tells [progL k] (at2L k i) 0).bad = false := by
  unfold at2L
  rw [if_pos (show i ≤ 3 * k by omega)]
  by_cases hi : i < 3 * k
  · rw [if_pos (show i + 1 ≤ 3 * k by omega)]
    exact atL_step hi
  · obtain rfl : i = 3 * k := by omega
    rw [if_neg (by omega)]
    have e : atL k (3 * k) = stL (3 * k) k k (objsL k) := by
      unfold atL
      rw [if_pos (by omega), show 3 * k / 3 = k by omega]
    rw [e]
    obtain ⟨h1, h2, -⟩ := end_steps k
    exact ⟨h1, h2⟩
theorem at2_one (k i : Nat) : (at2L k i).gs.length = 1 ∧ (at2L k i).st = [1] ∧ (at2L k i).sleep = [] := by
  unfold at2L
  split
  · exact atL_one k i
  · exact ⟨rfl, rfl, rfl⟩

theorem at2_zero (k : Nat) : at2L k 0 = m0 0 := by
  unfold at2L
  rw [if_pos (Nat.zero_le _)]
  rfl
theorem at2_end (k : Nat) : at2L k (3 * k + 1) = stL (3 * k + 1) k 0 (objsL k) := by
  unfold at2L
  rw [if_neg (by omega)]
theorem stepL_end (k : Nat) : stepM [progL k] (stL (3 * k + 1) k 0 (objsL k)) 0 = stL (3 * k + 2) 0 0 (objsL k) := (end_steps k).2.2

set_option maxRecDepth 10000 in
set_option maxHeartbeats 12800000 in
theorem lists_walk (n : Int) (j : Nat) (w : World) (hj : (IntKind.u64.wrap n).tmod 20 = (j : Int)) (hj2 : j < 20) : Calls Try.prog 6 #[.int .i64 n] w fun e w' => e = .returned (.bool true) ∧ Below w.heap.size w w' := by
  have e0 : IntKind.i64.wrap (j : Int) = (j : Int) := by rw [IntKind.wrap_i64]; omega
  have e1 : IntKind.i64.wrap (1 + (j : Int)) = ((j + 1 : Nat) : Int) := by rw [IntKind.wrap_i64]; omega
  obtain ⟨k, hk⟩ : ∃ k, j + 1 = k := ⟨_, rfl⟩
  rw [hk] at e1
  have hk1 : 1 ≤ k ∧ k ≤ 20 := by omega
  have HJ := Lib.hid hj
  have i0 : (0 : Int) ≤ 0 := by omega
  go_enter Try.func6, Try.ntmps6
  go_wp2_with fail
  go_loopw [4, 5] (fun v i wr => ∃ j : Nat, j ≤ k ∧ i = .int .i64 j ∧ RowJ wr w.heap.size v (nodesL j) ∧ Ex w wr) (fun _ i _ => k - (intOf i).toNat)
  case atStart => exact ⟨0, Nat.zero_le _, rfl, RowJ.nil _ _, Ex.refl _⟩
  case round =>
    obtain ⟨i, hi, rfl, hown, hx⟩ := hrel
    by_cases hlt : i < k
    · have bx := Box.fresh wr #[.int .i64 1, .int .i64 1, .int .i64 1, .int .i64 0, .int .i64 3, .int .i64 1, .int .i64 0, .int .i64 0, .int .i64 4, .int .i64 0, .int .i64 1, .int .i64 0] 40
      have x1 := Ex.made wr (.cells #[.int .i64 1, .int .i64 1, .int .i64 1, .int .i64 0, .int .i64 3, .int .i64 1, .int .i64 0, .int .i64 0, .int .i64 4, .int .i64 0, .int .i64 1, .int .i64 0] 40)
      have HB := Lib.hid bx
      have HO := Lib.hid (hown.ex x1)
      have HX := Lib.hid (hx.trans x1)
      have hln : (nodesL i).length + 3 ≤ 100000 := by rw [nodes_len]; omega
      obtain ⟨N1, hN1⟩ : ∃ N, (nodesL (i + 1)).length = N := ⟨_, rfl⟩
      clear bx x1 hown hx
      go_wp2_with (at_builtin; refine wpList_append_insts _ rfl (.tmp 22) (.tmp 26) rfl (B := w.heap.size) (l := nodesL i) (M := nodeL) rfl HO.out HX.out.size rfl HB.out rfl rfl (by decide) hln (L := nodesL (i + 1)) rfl hN1 ?_)
      intro g cap w3 h1 h2 h3 h4 h5
      have H1 := Lib.hid h1
      have H2 := Lib.hid (ex_grownJ HO.out HX.out HX.out.size h2)
      clear h1 h2 h3 h4 h5 HO HX HB
      go_wp2
      go_roundw
      case rel => exact ⟨i + 1, by omega, by go_num, H1.out, H2.out⟩
      case measure => simp [intOf]; omega
    · obtain rfl : i = k := by omega
      have bx := Box.fresh wr #[.int .i64 5, .int .i64 1, .int .i64 0, .int .i64 0, .int .i64 5, .int .i64 0, .int .i64 0, .int .i64 0] 40
      have x1 := Ex.made wr (.cells #[.int .i64 5, .int .i64 1, .int .i64 0, .int .i64 0, .int .i64 5, .int .i64 0, .int .i64 0, .int .i64 0] 40)
      have HB := Lib.hid bx
      have HO := Lib.hid (hown.ex x1)
      have HX := Lib.hid (hx.trans x1)
      have hln : (nodesL i).length + 2 ≤ 100000 := by rw [nodes_len]; omega
      obtain ⟨pl, hN1⟩ : ∃ N, (progL i).length = N := ⟨_, rfl⟩
      have e4 : ¬ ((i : Int) < (i : Int)) := by omega
      clear bx x1 hown hx
      go_wp2_with (at_builtin; refine wpList_append_insts _ rfl (.tmp 28) (.tmp 31) rfl (B := w.heap.size) (l := nodesL i) (M := [(5, 1, 0, 0), (5, 0, 0, 0)]) rfl HO.out HX.out.size rfl HB.out rfl rfl (by decide) hln (L := progL i) rfl hN1 ?_)
      intro g cap w3 h1 h2 h3 h4 h5
      have H1 := h1
      have H2 := Lib.hid (ex_grownJ HO.out HX.out HX.out.size h2)
      have bz := Box.fresh w3 #[.slice (some ⟨g, 0, none⟩) pl cap] 42
      have x3 := Ex.made w3 (.cells #[.slice (some ⟨g, 0, none⟩) pl cap] 42)
      clear h1 h2 h3 h4 h5 HO HX HB
      go_wp2_with fail
      generalize w3.alloc (.cells #[.slice (some ⟨g, 0, none⟩) pl cap] 42) = W4 at *
      have hp : C15.RdP W4 (.slice (some ⟨w3.heap.size, 0, none⟩) 1 1) [progL i] := rdP_box (F := [progL i]) (cap := 1) (lv := fun _ => .slice (some ⟨g, 0, none⟩) pl cap) bz (by simp) (fun q hq => by
        obtain rfl : q = 0 := by have : q < 1 := hq; omega
        exact (H1.ex x3).rd)
      have HX4 : Hid (Ex w W4) := Lib.hid (Ex.trans H2.out x3)
      refine (build_any (gn := 0) hp (Ex.refl _) (may_lists i (by omega) (by omega))).mono ?_
      rintro e w5 ⟨mb, rfl, h5, x5⟩
      have HM5 := Lib.hid h5
      have HX5 := Lib.hid (HX4.out.trans x5)
      have HB4 : Hid (w.heap.size ≤ W4.heap.size) := Lib.hid HX4.out.size
      clear hp H1 H2 bz x3 h5 x5 HX4
      go_wp2_with fail
      have e5 : IntKind.i64.wrap (3 * (i : Int)) = 3 * (i : Int) := by rw [IntKind.wrap_i64]; omega
      have e6 : IntKind.i64.wrap (3 * (i : Int) + 1) = 3 * (i : Int) + 1 := by rw [IntKind.wrap_i64]; omega
      go_loopw [7] (fun q W => ∃ a : Nat, a ≤ 3 * i + 1 ∧ q = .int .i64 a ∧ Mo W4.heap.size (fun _ => False) W mb [progL i] 0 a (at2L i a) ∧ Ex w W) (fun q _ => 3 * i + 1 - (intOf q).toNat)
      case atStart => exact ⟨0, Nat.zero_le _, rfl, (at2_zero i).symm ▸ HM5.out, HX5.out⟩
      case round =>
        clear HM5 HX5
        obtain ⟨a, ha, rfl, hm, hx⟩ := hrel
        have HM := Lib.hid hm
        have HX := Lib.hid hx
        clear hm hx
        by_cases hlt2 : a < 3 * i + 1
        · obtain ⟨g1, g2, g3⟩ := at2_one i a
          obtain ⟨s1, s2⟩ := at2_step hlt2
          have KD := Lib.hid (mo_do HM.out (by omega) (by rw [g3]; decide) (g := 0) (by rw [g1]; decide) (by rw [g2]; rfl))
          rw [s1] at KD
          obtain ⟨c, hc⟩ : ∃ c, tells [progL i] (at2L i a) 0 = c := ⟨_, rfl⟩
          rw [hc] at KD s2
          unfold cmV at KD
          rw [s2, show ((0 : Nat) : Int) = 0 from rfl] at KD
          have hlt3 : (a : Int) < 3 * (i : Int) + 1 := by omega
          clear g1 g2 g3 s1 s2 hc
          go_wp2_with fail
          refine KD.out.mono ?_
          rintro e w6 ⟨rfl, h6, t6⟩
          have HM6 := Lib.hid h6
          have HX6 := Lib.hid (t6.go HX.out HB4.out)
          clear h6 t6 KD HM HX
          go_wp2_with fail
          go_roundw
          case rel => exact ⟨a + 1, by omega, by go_num, HM6.out.ex (Ex.made _ _), HX6.out.trans (Ex.made _ _)⟩
          case measure => simp [intOf]; omega
        · obtain rfl : a = 3 * i + 1 := by omega
          have e7 : ¬ (((3 * i + 1 : Nat) : Int) < 3 * (i : Int) + 1) := by omega
          rw [at2_end] at HM
          have KR := Lib.hid (mo_reach HM.out (by omega))
          obtain ⟨rl, hrl⟩ : ∃ r, rchL (stL (3 * i + 1) i 0 (objsL i)) = r := ⟨_, rfl⟩
          have hr2 := rch_L_len i
          rw [hrl] at KR hr2
          unfold RowOut at KR
          rw [hr2] at KR
          clear hrl hr2
          go_wp2_with fail
          refine KR.out.mono ?_
          rintro e w6 ⟨u, rfl, hrow, x6⟩
          obtain ⟨ua, uc, hu⟩ : ∃ a c, u = .slice a i c := by
            rcases row_shape hrow with ⟨h1, h2, -⟩ | ⟨g, cap, h1, -⟩
            · exact ⟨none, 0, by rw [h1, h2]⟩
            · exact ⟨_, cap, h1⟩
          subst hu
          have HM6 := Lib.hid (HM.out.ex x6)
          have HX6 := Lib.hid (HX.out.trans x6)
          clear hrow x6 KR HM HX
          go_wp2_with fail
          refine (mo_do HM6.out (by omega) (show 0 < 900 by decide) (g := 0) (show 0 < 1 by decide) rfl).mono ?_
          rintro e w7 ⟨rfl, h7, t7⟩
          rw [stepL_end] at h7
          have HM7 := Lib.hid h7
          have HX7 := Lib.hid (t7.go HX6.out HB4.out)
          clear h7 t7 HM6 HX6
          go_wp2_with fail
          have KR := Lib.hid (mo_reach HM7.out (by omega))
          rw [rch_L0] at KR
          unfold RowOut at KR
          refine KR.out.mono ?_
          rintro e w8 ⟨u, rfl, hrow, x8⟩
          obtain ⟨va, vc, hu⟩ := T13.row_val hrow
          have hu : u = .slice va 0 vc := hu
          subst hu
          have HM8 := Lib.hid (HM7.out.ex x8)
          have HX8 := Lib.hid (HX7.out.trans x8)
          clear hrow x8 KR HM7 HX7
          go_wp2_with fail
          have hsl : ((stL (3 * i + 2) 0 0 (objsL i)).slots.length - 1 : Nat) = i := by
            show (objsL i).length - 1 = i
            rw [objs_len]; omega
          have KI := Lib.hid (mo_ids HM8.out (by omega))
          rw [hsl] at KI
          refine KI.out.mono ?_
          rintro e w9 ⟨rfl, rfl⟩
          clear KI hsl
          go_wp2_with fail
          go_loopw [11] (fun q W => ∃ d : Nat, 1 ≤ d ∧ d ≤ i + 1 ∧ q = .int .i64 d ∧ Ex w8 W) (fun q _ => i + 1 - (intOf q).toNat)
          case atStart => exact ⟨1, by omega, by omega, rfl, Ex.refl _⟩
          case round =>
            obtain ⟨d, hd1, hd2, rfl, hx⟩ := hrel
            have HM9 := Lib.hid (HM8.out.ex hx)
            have HXd := Lib.hid hx
            have HX9 := Lib.hid (HX8.out.trans hx)
            clear hx HM8 HX8
            by_cases hlt4 : d ≤ i
            · have hlt5 : (d : Int) ≤ (i : Int) := by omega
              have KS := Lib.hid (mo_slots HM9.out (by omega) d hd1 (by show d < (objsL i).length; rw [objs_len]; omega))
              have ho : (stL (3 * i + 2) 0 0 (objsL i)).slots.getD d [] = [d - 1, 0] := by
                show (objsL i).getD d [] = _
                rw [objs_at, if_pos ⟨hd1, hlt4⟩]
              rw [ho] at KS
              unfold RowOut at KS
              obtain ⟨d0, hd0⟩ : ∃ d0, d = d0 + 1 := ⟨d - 1, by omega⟩
              subst hd0
              have e8 : IntKind.i64.wrap (((d0 + 1 : Nat) : Int) - 1) = (d0 : Int) := by rw [IntKind.wrap_i64]; omega
              have e9 : IntKind.i64.wrap ((d0 : Int) + 1 - 1) = (d0 : Int) := by rw [IntKind.wrap_i64]; omega
              rw [Nat.add_sub_cancel] at KS
              clear ho
              go_wp2_with fail
              refine KS.out.mono ?_
              rintro e w10 ⟨u, rfl, hrow, x10⟩
              have x11 := Ex.made w10 (.cells #[.int .i64 (d0 : Int), .int .i64 0] 3)
              have R1 := Lib.hid ((rowI_nat hrow (L := [(d0 : Int), 0]) rfl).ex x11)
              have R2 := Lib.hid (rowI_box (L := [(d0 : Int), 0]) (c := 2) (Box.fresh w10 #[.int .i64 (d0 : Int), .int .i64 0] 3) rfl (n := 2) rfl)
              have HXe := Lib.hid (HXd.out.trans (x10.trans x11))
              have HXf := Lib.hid (HX9.out.trans (x10.trans x11))
              clear hrow x10 x11 KS
              go_wp2_with fail
              refine (T13.rints_any (by simp) R1.out R2.out).mono ?_
              rintro e w12 ⟨rfl, x12⟩
              have HXg := Lib.hid (HXe.out.trans x12)
              clear x12 R1 R2 HXe
              go_wp2_with fail
              go_roundw
              case rel => exact ⟨d0 + 1 + 1, by omega, by omega, by go_num, HXg.out⟩
              case measure => simp [intOf]; omega
            · have hlt5 : ¬ (d : Int) ≤ (i : Int) := by omega
              go_wp2_with fail
              refine (told_any _).mono ?_
              rintro e w10 ⟨rfl, x10⟩
              have HXe := Lib.hid (HX9.out.trans x10)
              clear x10
              go_wp2_with fail
              go_ret
              exact ⟨rfl, HXe.out⟩

theorem walk_ModelLists (a0 : Int) (w0 : (Lit.int .i64 a0).wf = true) (w : World) :
    Calls Try.prog 6 #[.int .i64 a0] w fun e w' => e = .returned (.bool true) ∧ Below w.heap.size w w' := by
  obtain ⟨h0, h1⟩ := utmod a0 20 (by omega)
  exact lists_walk a0 ((IntKind.u64.wrap a0).tmod 20).toNat w (by omega) (by omega)

end Go.Proofs.Ytmlobpapjfkbmaa
