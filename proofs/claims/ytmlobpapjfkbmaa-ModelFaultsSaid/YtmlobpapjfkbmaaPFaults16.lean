/- ModelFaults: what can't be done ends a goroutine, and nobody else. -/
import Derived.Test.YtmlobpapjfkbmaaPFaultsP16
namespace Go.Proofs.Ytmlobpapjfkbmaa
open Go.RowKit
set_option linter.unusedVariables false
set_option maxRecDepth 20000
set_option linter.unusedSimpArgs false

/-- A program of two functions, just laid. -/
theorem prog2 (w : World) (l1 l2 : List C15.I4) (cs1 cs2 : Array Value) (h1 : cs1 = (C15.cells4 l1).toArray) (h2 : cs2 = (C15.cells4 l2).toArray) (n1 n2 : Nat) (hn1 : l1.length = n1) (hn2 : l2.length = n2) :
    C15.RdP (((w.alloc (.cells cs1 40)).alloc (.cells cs2 40)).alloc (.cells #[.slice (some ⟨w.heap.size, 0, none⟩) n1 n1, .slice (some ⟨w.heap.size + 1, 0, none⟩) n2 n2] 42)) (.slice (some ⟨w.heap.size + 1 + 1, 0, none⟩) 2 2) [l1, l2] ∧
    Ex w (((w.alloc (.cells cs1 40)).alloc (.cells cs2 40)).alloc (.cells #[.slice (some ⟨w.heap.size, 0, none⟩) n1 n1, .slice (some ⟨w.heap.size + 1, 0, none⟩) n2 n2] 42)) := by
  have b1 : Box (((w.alloc (.cells cs1 40)).alloc (.cells cs2 40)).alloc (.cells #[.slice (some ⟨w.heap.size, 0, none⟩) n1 n1, .slice (some ⟨w.heap.size + 1, 0, none⟩) n2 n2] 42)) w.heap.size cs1 40 := ((Box.fresh w _ _).ex (Ex.made _ _)).ex (Ex.made _ _)
  have b2 : Box (((w.alloc (.cells cs1 40)).alloc (.cells cs2 40)).alloc (.cells #[.slice (some ⟨w.heap.size, 0, none⟩) n1 n1, .slice (some ⟨w.heap.size + 1, 0, none⟩) n2 n2] 42)) (w.heap.size + 1) cs2 40 := by
    have := (Box.fresh (w.alloc (.cells cs1 40)) cs2 40).ex (Ex.made _ (.cells #[.slice (some ⟨w.heap.size, 0, none⟩) n1 n1, .slice (some ⟨w.heap.size + 1, 0, none⟩) n2 n2] 42))
    simpa using this
  have b3 : Box (((w.alloc (.cells cs1 40)).alloc (.cells cs2 40)).alloc (.cells #[.slice (some ⟨w.heap.size, 0, none⟩) n1 n1, .slice (some ⟨w.heap.size + 1, 0, none⟩) n2 n2] 42)) (w.heap.size + 1 + 1) #[.slice (some ⟨w.heap.size, 0, none⟩) n1 n1, .slice (some ⟨w.heap.size + 1, 0, none⟩) n2 n2] 42 := by
    have := Box.fresh ((w.alloc (.cells cs1 40)).alloc (.cells cs2 40)) #[.slice (some ⟨w.heap.size, 0, none⟩) n1 n1, .slice (some ⟨w.heap.size + 1, 0, none⟩) n2 n2] 42
    simpa using this
  subst h1 h2 hn1 hn2
  refine ⟨rdP_box (F := [l1, l2]) (cap := 2) (lv := fun i => if i = 0 then .slice (some ⟨w.heap.size, 0, none⟩) l1.length l1.length else .slice (some ⟨w.heap.size + 1, 0, none⟩) l2.length l2.length) b3 (by simp) (fun i hi => ?_), ((Ex.made _ _).trans (Ex.made _ _)).trans (Ex.made _ _)⟩
  have : i = 0 ∨ i = 1 := by have : i < 2 := hi; omega
  rcases this with rfl | rfl
  · exact rdI_box b1 (Nat.le_refl _)
  · exact rdI_box b2 (Nat.le_refl _)

set_option maxRecDepth 10000 in
set_option maxHeartbeats 12800000 in
theorem faults_walk (n s : Int) (l : Bool) (k i : Nat) (w : World) (hk : (IntKind.u64.wrap n).tmod 256 = (k : Int)) (hk2 : k < 256) (hi : (IntKind.u64.wrap s).tmod 256 = (i : Int)) (hi2 : i < 256) :
    Calls Try.prog 4 #[.int .i64 n, .int .i64 s, .bool l] w fun e w' => e = .returned (.bool true) ∧ Below w.heap.size w w' := by
  have e0 : IntKind.i64.wrap (k : Int) = (k : Int) := by rw [IntKind.wrap_i64]; omega
  have e1 : IntKind.i64.wrap (i : Int) = (i : Int) := by rw [IntKind.wrap_i64]; omega
  obtain ⟨d, o, ho, s3, s3b, s3v⟩ := F_3 l k i
  have HFM := Lib.hid (may_F l k i hk2 hi2)
  have H1 := Lib.hid (F_1 l k i)
  have H2 := Lib.hid (F_2 l k i)
  have H3 := Lib.hid s3
  have H3b := Lib.hid s3b
  have H3v := Lib.hid s3v
  have HO := Lib.hid ho
  have H4 := Lib.hid (F_4 l k i d o)
  have HF : Hid (FF l k i = [firstF l k i, [(5, 0, 0, 0)]]) := Lib.hid rfl
  have P2 := Lib.hid (fun W => prog2 W (firstF l k i) [(5, 0, 0, 0)])
  clear ho s3 s3b s3v
  generalize FF l k i = F at *
  cases l with
  | true =>
    go_enter Try.func4, Try.ntmps4
    go_wp2_with fail
    have x1 := Ex.made w (.cells #[.int .i64 2, .int .i64 2, .int .i64 1, .int .i64 (i : Nat)] 40)
    have hs1 : (w.alloc (.cells #[.int .i64 2, .int .i64 2, .int .i64 1, .int .i64 (i : Nat)] 40)).heap.size = w.heap.size + 1 := by simp
    generalize w.alloc (.cells #[.int .i64 2, .int .i64 2, .int .i64 1, .int .i64 (i : Nat)] 40) = W1 at *
    rw [← hs1]
    obtain ⟨hp, x2⟩ := P2.out W1 #[.int .i64 8, .int .i64 1, .int .i64 0, .int .i64 0, .int .i64 1, .int .i64 1, .int .i64 (k : Nat), .int .i64 0, .int .i64 2, .int .i64 2, .int .i64 1, .int .i64 (i : Nat), .int .i64 2, .int .i64 3, .int .i64 9, .int .i64 0] #[.int .i64 5, .int .i64 0, .int .i64 0, .int .i64 0] rfl rfl 4 1 rfl rfl
    generalize ((W1.alloc (.cells #[.int .i64 8, .int .i64 1, .int .i64 0, .int .i64 0, .int .i64 1, .int .i64 1, .int .i64 (k : Nat), .int .i64 0, .int .i64 2, .int .i64 2, .int .i64 1, .int .i64 (i : Nat), .int .i64 2, .int .i64 3, .int .i64 9, .int .i64 0] 40)).alloc (.cells #[.int .i64 5, .int .i64 0, .int .i64 0, .int .i64 0] 40)).alloc (.cells #[.slice (some ⟨W1.heap.size, 0, none⟩) 4 4, .slice (some ⟨W1.heap.size + 1, 0, none⟩) 1 1] 42) = W2 at *
    rw [← HF.out] at hp
    have HX2 := Lib.hid (Ex.trans x1 x2)
    have HB : Hid (w.heap.size ≤ W2.heap.size) := Lib.hid HX2.out.size
    refine (build_any (gn := 0) hp (Ex.refl _) HFM.out).mono ?_
    rintro e w3 ⟨mb, rfl, h3, x3⟩
    have HM3 := Lib.hid h3
    have HX3 := Lib.hid (HX2.out.trans x3)
    clear hp x1 x2 hs1 h3 x3 HX2 P2 HF
    go_wp2_with fail
    refine (mo_do HM3.out (by omega) (show 0 < 900 by decide) (g := 0) (show 0 < 1 by decide) rfl).mono ?_
    rintro e w4 ⟨rfl, h4, t4⟩
    rw [H1.out] at h4
    have HM4 := Lib.hid h4
    have HX4 := Lib.hid (t4.go HX3.out HB.out)
    clear h4 t4 HM3 HX3
    go_wp2_with fail
    refine (mo_do HM4.out (by omega) (show 0 < 900 by decide) (g := 0) (show 0 < 2 by decide) rfl).mono ?_
    rintro e w5 ⟨rfl, h5, t5⟩
    rw [H2.out] at h5
    have HM5 := Lib.hid h5
    have HX5 := Lib.hid (t5.go HX4.out HB.out)
    clear h5 t5 HM4 HX4
    go_wp2_with fail
    have KD := Lib.hid (mo_do HM5.out (by omega) (show 0 < 900 by decide) (g := 0) (show 0 < 2 by decide) rfl)
    rw [H3.out] at KD
    unfold cmV at KD
    rw [H3b.out, H3v.out] at KD
    generalize tells F (mF 2 1 0 1 [[], List.replicate (k + 1) 0]) 0 = c at KD
    refine KD.out.mono ?_
    rintro e w6 ⟨rfl, h6, t6⟩
    have HM6 := Lib.hid h6
    have HX6 := Lib.hid (t6.go HX5.out HB.out)
    clear h6 t6 HM5 HX5 KD H1 H2 H3 H3b H3v HFM
    by_cases hlt : k < i
    · rw [if_pos hlt] at HM6
      rw [decide_eq_true hlt]
      have q1 : (k : Int) < (i : Int) := by omega
      go_wp2_with fail
      have x7 := Ex.made w6 (.cells #[.int .i64 (c.g : Nat), .int .i64 (c.f : Nat), .int .i64 (c.pc : Nat), .int .i64 c.op, .int .i64 0, .bool true] 34)
      generalize w6.alloc (.cells #[.int .i64 (c.g : Nat), .int .i64 (c.f : Nat), .int .i64 (c.pc : Nat), .int .i64 c.op, .int .i64 0, .bool true] 34) = W7 at *
      have HM7 := Lib.hid (HM6.out.ex x7)
      have HX7 := Lib.hid (HX6.out.trans x7)
      clear x7 HM6 HX6
      refine (mo_state HM7.out 0 5 rfl).mono ?_
      rintro e w8 ⟨rfl, rfl⟩
      go_wp2_with fail
      refine (mo_state HM7.out 1 1 rfl).mono ?_
      rintro e w8 ⟨rfl, rfl⟩
      go_wp2_with fail
      refine (told_any _).mono ?_
      rintro e w8 ⟨rfl, x8⟩
      have HM8 := Lib.hid (HM7.out.ex x8)
      have HX8 := Lib.hid (HX7.out.trans x8)
      clear x8 HM7 HX7
      go_wp2_with fail
      have KR := Lib.hid (mo_reach HM8.out (by omega))
      rw [rch_F] at KR
      unfold RowOut at KR
      refine KR.out.mono ?_
      rintro e w9 ⟨u, rfl, hrow, x9⟩
      obtain ⟨va, vc, hu⟩ := T13.row_val hrow
      have hu : u = .slice va 0 vc := hu
      subst hu
      have HM9 := Lib.hid (HM8.out.ex x9)
      have HX9 := Lib.hid (HX8.out.trans x9)
      clear hrow x9 KR HM8 HX8
      go_wp2_with fail
      have KI := Lib.hid (mo_ids HM9.out (by omega))
      rw [show ((mF 3 1 d 5 o).slots.length - 1 : Nat) = 1 by show o.length - 1 = 1; rw [HO.out]] at KI
      refine KI.out.mono ?_
      rintro e w10 ⟨rfl, rfl⟩
      clear KI
      go_wp2_with fail
      go_ret
      exact ⟨rfl, HX9.out⟩
    · rw [if_neg hlt] at HM6
      rw [decide_eq_false hlt]
      have q1 : ¬ (k : Int) < (i : Int) := by omega
      go_wp2_with fail
      have x7 := Ex.made w6 (.cells #[.int .i64 (c.g : Nat), .int .i64 (c.f : Nat), .int .i64 (c.pc : Nat), .int .i64 c.op, .int .i64 0, .bool false] 34)
      generalize w6.alloc (.cells #[.int .i64 (c.g : Nat), .int .i64 (c.f : Nat), .int .i64 (c.pc : Nat), .int .i64 c.op, .int .i64 0, .bool false] 34) = W7 at *
      have HM7 := Lib.hid (HM6.out.ex x7)
      have HX7 := Lib.hid (HX6.out.trans x7)
      clear x7 HM6 HX6
      refine (mo_state HM7.out 0 1 rfl).mono ?_
      rintro e w8 ⟨rfl, rfl⟩
      go_wp2_with fail
      refine (mo_state HM7.out 1 1 rfl).mono ?_
      rintro e w8 ⟨rfl, rfl⟩
      go_wp2_with fail
      obtain ⟨s4, s4b⟩ := H4.out
      have KD := Lib.hid (mo_do HM7.out (by omega) (show 0 < 900 by decide) (g := 0) (show 0 < 2 by decide) rfl)
      rw [s4] at KD
      unfold cmV at KD
      rw [s4b] at KD
      generalize tells F (mF 3 1 d 1 o) 0 = c2 at KD
      clear s4 s4b
      refine KD.out.mono ?_
      rintro e w8 ⟨rfl, h8, t8⟩
      have HM8 := Lib.hid h8
      have HX8 := Lib.hid (t8.go HX7.out HB.out)
      clear h8 t8 HM7 HX7 KD
      go_wp2_with fail
      have b9 := Box.fresh w8 #[.int .i64 (c2.g : Nat), .int .i64 (c2.f : Nat), .int .i64 (c2.pc : Nat), .int .i64 c2.op, .int .i64 c2.v, .bool true] 34
      have x9 := Ex.made w8 (.cells #[.int .i64 (c2.g : Nat), .int .i64 (c2.f : Nat), .int .i64 (c2.pc : Nat), .int .i64 c2.op, .int .i64 c2.v, .bool true] 34)
      have hs9 : (w8.alloc (.cells #[.int .i64 (c2.g : Nat), .int .i64 (c2.f : Nat), .int .i64 (c2.pc : Nat), .int .i64 c2.op, .int .i64 c2.v, .bool true] 34)).heap.size = w8.heap.size + 1 := by simp
      generalize w8.alloc (.cells #[.int .i64 (c2.g : Nat), .int .i64 (c2.f : Nat), .int .i64 (c2.pc : Nat), .int .i64 c2.op, .int .i64 c2.v, .bool true] 34) = W9 at *
      rw [← hs9]
      obtain ⟨cb, hcb⟩ : ∃ b, w8.heap.size = b := ⟨_, rfl⟩
      rw [hcb] at b9 ⊢
      have b10 := Box.fresh W9 #[.int .i64 1] 3
      have x10 := Ex.made W9 (.cells #[.int .i64 1] 3)
      obtain ⟨ib, hib⟩ : ∃ b, W9.heap.size = b := ⟨_, rfl⟩
      rw [hib] at b10 ⊢
      generalize W9.alloc (.cells #[.int .i64 1] 3) = W10 at *
      have HM10 := Lib.hid ((HM8.out.ex x9).ex x10)
      have HX10 := Lib.hid ((HX8.out.trans x9).trans x10)
      have B10 := Lib.hid b10
      have C10 := Lib.hid (b9.ex x10)
      clear x9 x10 b9 b10 hcb hib hs9 HM8 HX8
      refine (told_any _).mono ?_
      rintro e w11 ⟨rfl, x11⟩
      have HM11 := Lib.hid (HM10.out.ex x11)
      have HX11 := Lib.hid (HX10.out.trans x11)
      have B11 := Lib.hid (B10.out.ex x11)
      have c5 : w11.cell? ⟨cb, 5, none⟩ = some (.bool true) := (C10.out.ex x11).cell 5
      clear x11 HM10 HX10 B10 C10
      go_wp2_with fail
      refine (mo_state HM11.out 0 5 rfl).mono ?_
      rintro e w12 ⟨rfl, rfl⟩
      go_wp2_with fail
      have KI := Lib.hid (mo_ids HM11.out (by omega))
      rw [show ((mF 4 1 d 5 o).slots.length - 1 : Nat) = 1 by show o.length - 1 = 1; rw [HO.out]] at KI
      refine KI.out.mono ?_
      rintro e w12 ⟨rfl, rfl⟩
      clear KI
      have x12 := Ex.made w11 (.cells #[.int .i64 1] 3)
      have R1 := Lib.hid (rowI_box (L := [(1 : Int)]) (c := 1) (B11.out.ex x12) rfl (n := 1) rfl)
      have R2 := Lib.hid (rowI_box (L := [(1 : Int)]) (c := 1) (Box.fresh w11 #[.int .i64 1] 3) rfl (n := 1) rfl)
      have HM12 := Lib.hid (HM11.out.ex x12)
      have HX12 := Lib.hid (HX11.out.trans x12)
      clear x12 HM11 HX11 B11
      go_wp2_with fail
      refine (T13.rints_any (by simp) R1.out R2.out).mono ?_
      rintro e w13 ⟨rfl, x13⟩
      have HM13 := Lib.hid (HM12.out.ex x13)
      have HX13 := Lib.hid (HX12.out.trans x13)
      clear x13 HM12 HX12 R1 R2
      go_wp2_with fail
      refine (mo_state HM13.out 1 1 rfl).mono ?_
      rintro e w14 ⟨rfl, rfl⟩
      go_wp2_with fail
      go_ret
      exact ⟨rfl, HX13.out⟩
  | false =>
    go_enter Try.func4, Try.ntmps4
    go_wp2_with fail
    have x1 := Ex.made w (.cells #[.int .i64 3, .int .i64 1, .int .i64 (i : Nat), .int .i64 1] 40)
    have hs1 : (w.alloc (.cells #[.int .i64 3, .int .i64 1, .int .i64 (i : Nat), .int .i64 1] 40)).heap.size = w.heap.size + 1 := by simp
    generalize w.alloc (.cells #[.int .i64 3, .int .i64 1, .int .i64 (i : Nat), .int .i64 1] 40) = W1 at *
    rw [← hs1]
    obtain ⟨hp, x2⟩ := P2.out W1 #[.int .i64 8, .int .i64 1, .int .i64 0, .int .i64 0, .int .i64 1, .int .i64 1, .int .i64 (k : Nat), .int .i64 0, .int .i64 3, .int .i64 1, .int .i64 (i : Nat), .int .i64 1, .int .i64 2, .int .i64 3, .int .i64 9, .int .i64 0] #[.int .i64 5, .int .i64 0, .int .i64 0, .int .i64 0] rfl rfl 4 1 rfl rfl
    generalize ((W1.alloc (.cells #[.int .i64 8, .int .i64 1, .int .i64 0, .int .i64 0, .int .i64 1, .int .i64 1, .int .i64 (k : Nat), .int .i64 0, .int .i64 3, .int .i64 1, .int .i64 (i : Nat), .int .i64 1, .int .i64 2, .int .i64 3, .int .i64 9, .int .i64 0] 40)).alloc (.cells #[.int .i64 5, .int .i64 0, .int .i64 0, .int .i64 0] 40)).alloc (.cells #[.slice (some ⟨W1.heap.size, 0, none⟩) 4 4, .slice (some ⟨W1.heap.size + 1, 0, none⟩) 1 1] 42) = W2 at *
    rw [← HF.out] at hp
    have HX2 := Lib.hid (Ex.trans x1 x2)
    have HB : Hid (w.heap.size ≤ W2.heap.size) := Lib.hid HX2.out.size
    refine (build_any (gn := 0) hp (Ex.refl _) HFM.out).mono ?_
    rintro e w3 ⟨mb, rfl, h3, x3⟩
    have HM3 := Lib.hid h3
    have HX3 := Lib.hid (HX2.out.trans x3)
    clear hp x1 x2 hs1 h3 x3 HX2 P2 HF
    go_wp2_with fail
    refine (mo_do HM3.out (by omega) (show 0 < 900 by decide) (g := 0) (show 0 < 1 by decide) rfl).mono ?_
    rintro e w4 ⟨rfl, h4, t4⟩
    rw [H1.out] at h4
    have HM4 := Lib.hid h4
    have HX4 := Lib.hid (t4.go HX3.out HB.out)
    clear h4 t4 HM3 HX3
    go_wp2_with fail
    refine (mo_do HM4.out (by omega) (show 0 < 900 by decide) (g := 0) (show 0 < 2 by decide) rfl).mono ?_
    rintro e w5 ⟨rfl, h5, t5⟩
    rw [H2.out] at h5
    have HM5 := Lib.hid h5
    have HX5 := Lib.hid (t5.go HX4.out HB.out)
    clear h5 t5 HM4 HX4
    go_wp2_with fail
    have KD := Lib.hid (mo_do HM5.out (by omega) (show 0 < 900 by decide) (g := 0) (show 0 < 2 by decide) rfl)
    rw [H3.out] at KD
    unfold cmV at KD
    rw [H3b.out, H3v.out] at KD
    generalize tells F (mF 2 1 0 1 [[], List.replicate (k + 1) 0]) 0 = c at KD
    refine KD.out.mono ?_
    rintro e w6 ⟨rfl, h6, t6⟩
    have HM6 := Lib.hid h6
    have HX6 := Lib.hid (t6.go HX5.out HB.out)
    clear h6 t6 HM5 HX5 KD H1 H2 H3 H3b H3v HFM
    by_cases hlt : k < i
    · rw [if_pos hlt] at HM6
      rw [decide_eq_true hlt]
      have q1 : (k : Int) < (i : Int) := by omega
      go_wp2_with fail
      have x7 := Ex.made w6 (.cells #[.int .i64 (c.g : Nat), .int .i64 (c.f : Nat), .int .i64 (c.pc : Nat), .int .i64 c.op, .int .i64 0, .bool true] 34)
      generalize w6.alloc (.cells #[.int .i64 (c.g : Nat), .int .i64 (c.f : Nat), .int .i64 (c.pc : Nat), .int .i64 c.op, .int .i64 0, .bool true] 34) = W7 at *
      have HM7 := Lib.hid (HM6.out.ex x7)
      have HX7 := Lib.hid (HX6.out.trans x7)
      clear x7 HM6 HX6
      refine (mo_state HM7.out 0 5 rfl).mono ?_
      rintro e w8 ⟨rfl, rfl⟩
      go_wp2_with fail
      refine (mo_state HM7.out 1 1 rfl).mono ?_
      rintro e w8 ⟨rfl, rfl⟩
      go_wp2_with fail
      refine (told_any _).mono ?_
      rintro e w8 ⟨rfl, x8⟩
      have HM8 := Lib.hid (HM7.out.ex x8)
      have HX8 := Lib.hid (HX7.out.trans x8)
      clear x8 HM7 HX7
      go_wp2_with fail
      have KR := Lib.hid (mo_reach HM8.out (by omega))
      rw [rch_F] at KR
      unfold RowOut at KR
      refine KR.out.mono ?_
      rintro e w9 ⟨u, rfl, hrow, x9⟩
      obtain ⟨va, vc, hu⟩ := T13.row_val hrow
      have hu : u = .slice va 0 vc := hu
      subst hu
      have HM9 := Lib.hid (HM8.out.ex x9)
      have HX9 := Lib.hid (HX8.out.trans x9)
      clear hrow x9 KR HM8 HX8
      go_wp2_with fail
      have KI := Lib.hid (mo_ids HM9.out (by omega))
      rw [show ((mF 3 1 d 5 o).slots.length - 1 : Nat) = 1 by show o.length - 1 = 1; rw [HO.out]] at KI
      refine KI.out.mono ?_
      rintro e w10 ⟨rfl, rfl⟩
      clear KI
      go_wp2_with fail
      go_ret
      exact ⟨rfl, HX9.out⟩
    · rw [if_neg hlt] at HM6
      rw [decide_eq_false hlt]
      have q1 : ¬ (k : Int) < (i : Int) := by omega
      go_wp2_with fail
      have x7 := Ex.made w6 (.cells #[.int .i64 (c.g : Nat), .int .i64 (c.f : Nat), .int .i64 (c.pc : Nat), .int .i64 c.op, .int .i64 0, .bool false] 34)
      generalize w6.alloc (.cells #[.int .i64 (c.g : Nat), .int .i64 (c.f : Nat), .int .i64 (c.pc : Nat), .int .i64 c.op, .int .i64 0, .bool false] 34) = W7 at *
      have HM7 := Lib.hid (HM6.out.ex x7)
      have HX7 := Lib.hid (HX6.out.trans x7)
      clear x7 HM6 HX6
      refine (mo_state HM7.out 0 1 rfl).mono ?_
      rintro e w8 ⟨rfl, rfl⟩
      go_wp2_with fail
      refine (mo_state HM7.out 1 1 rfl).mono ?_
      rintro e w8 ⟨rfl, rfl⟩
      go_wp2_with fail
      obtain ⟨s4, s4b⟩ := H4.out
      have KD := Lib.hid (mo_do HM7.out (by omega) (show 0 < 900 by decide) (g := 0) (show 0 < 2 by decide) rfl)
      rw [s4] at KD
      unfold cmV at KD
      rw [s4b] at KD
      generalize tells F (mF 3 1 d 1 o) 0 = c2 at KD
      clear s4 s4b
      refine KD.out.mono ?_
      rintro e w8 ⟨rfl, h8, t8⟩
      have HM8 := Lib.hid h8
      have HX8 := Lib.hid (t8.go HX7.out HB.out)
      clear h8 t8 HM7 HX7 KD
      go_wp2_with fail
      have b9 := Box.fresh w8 #[.int .i64 (c2.g : Nat), .int .i64 (c2.f : Nat), .int .i64 (c2.pc : Nat), .int .i64 c2.op, .int .i64 c2.v, .bool true] 34
      have x9 := Ex.made w8 (.cells #[.int .i64 (c2.g : Nat), .int .i64 (c2.f : Nat), .int .i64 (c2.pc : Nat), .int .i64 c2.op, .int .i64 c2.v, .bool true] 34)
      have hs9 : (w8.alloc (.cells #[.int .i64 (c2.g : Nat), .int .i64 (c2.f : Nat), .int .i64 (c2.pc : Nat), .int .i64 c2.op, .int .i64 c2.v, .bool true] 34)).heap.size = w8.heap.size + 1 := by simp
      generalize w8.alloc (.cells #[.int .i64 (c2.g : Nat), .int .i64 (c2.f : Nat), .int .i64 (c2.pc : Nat), .int .i64 c2.op, .int .i64 c2.v, .bool true] 34) = W9 at *
      rw [← hs9]
      obtain ⟨cb, hcb⟩ : ∃ b, w8.heap.size = b := ⟨_, rfl⟩
      rw [hcb] at b9 ⊢
      have b10 := Box.fresh W9 #[.int .i64 1] 3
      have x10 := Ex.made W9 (.cells #[.int .i64 1] 3)
      obtain ⟨ib, hib⟩ : ∃ b, W9.heap.size = b := ⟨_, rfl⟩
      rw [hib] at b10 ⊢
      generalize W9.alloc (.cells #[.int .i64 1] 3) = W10 at *
      have HM10 := Lib.hid ((HM8.out.ex x9).ex x10)
      have HX10 := Lib.hid ((HX8.out.trans x9).trans x10)
      have B10 := Lib.hid b10
      have C10 := Lib.hid (b9.ex x10)
      clear x9 x10 b9 b10 hcb hib hs9 HM8 HX8
      refine (told_any _).mono ?_
      rintro e w11 ⟨rfl, x11⟩
      have HM11 := Lib.hid (HM10.out.ex x11)
      have HX11 := Lib.hid (HX10.out.trans x11)
      have B11 := Lib.hid (B10.out.ex x11)
      have c5 : w11.cell? ⟨cb, 5, none⟩ = some (.bool true) := (C10.out.ex x11).cell 5
      clear x11 HM10 HX10 B10 C10
      go_wp2_with fail
      refine (mo_state HM11.out 0 5 rfl).mono ?_
      rintro e w12 ⟨rfl, rfl⟩
      go_wp2_with fail
      have KI := Lib.hid (mo_ids HM11.out (by omega))
      rw [show ((mF 4 1 d 5 o).slots.length - 1 : Nat) = 1 by show o.length - 1 = 1; rw [HO.out]] at KI
      refine KI.out.mono ?_
      rintro e w12 ⟨rfl, rfl⟩
      clear KI
      have x12 := Ex.made w11 (.cells #[.int .i64 1] 3)
      have R1 := Lib.hid (rowI_box (L := [(1 : Int)]) (c := 1) (B11.out.ex x12) rfl (n := 1) rfl)
      have R2 := Lib.hid (rowI_box (L := [(1 : Int)]) (c := 1) (Box.fresh w11 #[.int .i64 1] 3) rfl (n := 1) rfl)
      have HM12 := Lib.hid (HM11.out.ex x12)
      have HX12 := Lib.hid (HX11.out.trans x12)
      clear x12 HM11 HX11 B11
      go_wp2_with fail
      refine (T13.rints_any (by simp) R1.out R2.out).mono ?_
      rintro e w13 ⟨rfl, x13⟩
      have HM13 := Lib.hid (HM12.out.ex x13)
      have HX13 := Lib.hid (HX12.out.trans x13)
      clear x13 HM12 HX12 R1 R2
      go_wp2_with fail
      refine (mo_state HM13.out 1 1 rfl).mono ?_
      rintro e w14 ⟨rfl, rfl⟩
      go_wp2_with fail
      go_ret
      exact ⟨rfl, HX13.out⟩

theorem walk_ModelFaults (a0 a1 : Int) (b2 : Bool) (w0 : (Lit.int .i64 a0).wf = true) (w1 : (Lit.int .i64 a1).wf = true) (w : World) :
    Calls Try.prog 4 #[.int .i64 a0, .int .i64 a1, .bool b2] w fun e w' => e = .returned (.bool true) ∧ Below w.heap.size w w' := by
  obtain ⟨h0, h1⟩ := utmod a0 256 (by omega)
  obtain ⟨h2, h3⟩ := utmod a1 256 (by omega)
  exact faults_walk a0 a1 b2 ((IntKind.u64.wrap a0).tmod 256).toNat ((IntKind.u64.wrap a1).tmod 256).toNat w (by omega) (by omega) (by omega) (by omega)

end Go.Proofs.Ytmlobpapjfkbmaa
