/- ModelCounts: a loop that counts down goes round just so often. -/
import Derived.Test.YtmlobpapjfkbmaaPCountsP16
namespace Go.Proofs.Ytmlobpapjfkbmaa
open Go.RowKit
set_option linter.unusedVariables false
set_option maxRecDepth 20000
set_option linter.unusedSimpArgs false

theorem and_mask (x : Int) (k : Nat) (hk : k ≤ 62) : bits .and .i64 x ((2 ^ k - 1 : Nat) : Int) = x % ((2 ^ k : Nat) : Int) := by
  have hp : 2 ^ k ∣ (18446744073709551616 : Nat) := ⟨2 ^ (64 - k), by rw [← Nat.pow_add, show k + (64 - k) = 64 by omega]⟩
  have hle : 2 ^ k ≤ 2 ^ 62 := Nat.pow_le_pow_right (by omega) hk
  have hpos : 0 < 2 ^ k := Nat.two_pow_pos k
  have e1 : (BitVec.ofInt 64 ((2 ^ k - 1 : Nat) : Int)).toNat = 2 ^ k - 1 := by
    rw [BitVec.ofInt_natCast, BitVec.toNat_ofNat]; exact Nat.mod_eq_of_lt (by omega)
  have e2 : (BitVec.ofInt 64 x).toNat = (x % 18446744073709551616).toNat := by
    rw [BitVec.toNat_ofInt]; rfl
  have e4 : (BitVec.ofInt 64 x &&& BitVec.ofInt 64 ((2 ^ k - 1 : Nat) : Int)).toNat = (x % 18446744073709551616).toNat % 2 ^ k := by
    rw [BitVec.toNat_and, e1, e2, Nat.and_two_pow_sub_one_eq_mod]
  show IntKind.i64.wrap ((BitVec.ofInt 64 x &&& BitVec.ofInt 64 ((2 ^ k - 1 : Nat) : Int)).toNat : Int) = _
  rw [e4]
  have e3 : (((x % 18446744073709551616).toNat % 2 ^ k : Nat) : Int) = x % ((2 ^ k : Nat) : Int) := by
    rw [Int.natCast_emod, Int.toNat_of_nonneg (by omega)]
    exact Int.emod_emod_of_dvd x (Int.natCast_dvd_natCast.2 hp)
  have h1 : 0 ≤ x % ((2 ^ k : Nat) : Int) := Int.emod_nonneg _ (by omega)
  have h2 : x % ((2 ^ k : Nat) : Int) < ((2 ^ k : Nat) : Int) := Int.emod_lt_of_pos _ (by omega)
  rw [e3, IntKind.wrap_i64]
  omega
theorem and255 (x : Nat) : bits .and .i64 (x : Int) 255 = ((x % 256 : Nat) : Int) := by
  have := and_mask (x : Int) 8 (by omega)
  rw [show ((2 ^ 8 - 1 : Nat) : Int) = 255 from rfl, show ((2 ^ 8 : Nat) : Int) = 256 from rfl] at this
  rw [this]; omega
/-- A row of instructions in a block of its own. -/
theorem RowJ.box {w : World} {b n B : Nat} {l : List C15.I4} {cs : Array Value} (h : Box w b cs 40) (hcs : cs = (C15.cells4 l).toArray) (hn : l.length = n) (hl : n ≤ 1000) (hB : B ≤ b) : RowJ w B (.slice (some ⟨b, 0, none⟩) n n) l := by
  subst hcs hn
  have ht : List.take (l.length * 4) (C15.cells4 l) = C15.cells4 l := by rw [← cells4_len, List.take_length]
  exact ⟨by rw [cells4_len], .inr ⟨b, l.length, (C15.cells4 l).toArray, rfl, hB, h, Nat.le_refl _, by unfold maxLen; omega, by simp [cells4_len], ht⟩⟩
theorem loop_C (w : World) (j : Nat) (hj : j < 50) : Calls Try.prog 25 #[.int .i64 (j : Nat)] w fun e w' => ∃ b, e = .returned (.slice (some ⟨b, 0, none⟩) 3 3) ∧ Box w' b (C15.cells4 (f1C j)).toArray 40 ∧ Ex w w' := by
  obtain ⟨q, hq⟩ : ∃ q, j / 256 = q := ⟨_, rfl⟩
  obtain ⟨r, hr⟩ : ∃ r, j % 256 = r := ⟨_, rfl⟩
  have e1 := and255 j
  rw [hr] at e1
  have e2 : (j : Int) / 256 = (q : Int) := by omega
  have hcs : (C15.cells4 (f1C j)).toArray = #[.int .i64 16, .int .i64 (q : Int), .int .i64 (r : Int), .int .i64 0, .int .i64 4, .int .i64 1, .int .i64 2, .int .i64 0, .int .i64 17, .int .i64 1, .int .i64 0, .int .i64 0] := by unfold f1C; rw [hq, hr]; rfl
  rw [hcs]
  have hb := Box.fresh w #[.int .i64 16, .int .i64 (q : Int), .int .i64 (r : Int), .int .i64 0, .int .i64 4, .int .i64 1, .int .i64 2, .int .i64 0, .int .i64 17, .int .i64 1, .int .i64 0, .int .i64 0] 40
  have hx := Ex.made w (.cells #[.int .i64 16, .int .i64 (q : Int), .int .i64 (r : Int), .int .i64 0, .int .i64 4, .int .i64 1, .int .i64 2, .int .i64 0, .int .i64 17, .int .i64 1, .int .i64 0, .int .i64 0] 40)
  clear hcs hq hr
  go_enter Try.func25, Try.ntmps25
  go_wp2_with fail
  go_ret
  exact ⟨_, rfl, hb, hx⟩
theorem moves0_step (k a : Nat) (h : a < 2 * k + 5) : moves0 k (a + 1) = moves0 k a + (if 2 ≤ a ∧ a ≤ 2 * k + 3 ∧ a % 2 = 0 then 1 else 0) := by
  unfold moves0
  split <;> omega
theorem moves1_step (j b : Nat) (h : b < 2 * j + 4) : moves1 j (b + 1) = moves1 j b + (if b ≠ 0 ∧ b ≤ 2 * j + 2 ∧ b % 2 = 1 then 1 else 0) := by
  unfold moves1
  split <;> omega
theorem cS_stuck (k j : Nat) : stuckM (cS k j (2 * k + 5) (2 * j + 4)) = false := by
  have h := (cS_facts k j (2 * k + 5) (2 * j + 4) (Nat.le_refl _)).2.2.2.2
  have : cntW (cS k j (2 * k + 5) (2 * j + 4)).wait 32 = 0 := by rw [h]; rfl
  unfold stuckM
  rw [this]
  simp
theorem turn_0b {k j a b : Nat} (ha : a < 2 * k + 5) (hb : a = 0 → b = 0) : stepM (FC k j) (cS k j a b) 0 = cS k j (a + 1) b ∧ ∃ op : Int, (tells (FC k j) (cS k j a b) 0).op = op ∧ moves0 k (a + 1) = moves0 k a + (if op = 4 then 1 else 0) := by
  obtain ⟨h1, h2⟩ := turn_0 ha hb
  refine ⟨h1, _, h2, ?_⟩
  rw [moves0_step k a ha]
  congr 1
  by_cases e : 2 ≤ a ∧ a ≤ 2 * k + 3 ∧ a % 2 = 0
  · rw [if_pos e, if_neg (show ¬ a = 0 by omega), if_neg (show ¬ a = 1 by omega), if_pos e.2.1, if_pos e.2.2, if_pos rfl]
  · rw [if_neg e, if_neg]
    by_cases e0 : a = 0
    · rw [if_pos e0]; decide
    · rw [if_neg e0]
      by_cases e1 : a = 1
      · rw [if_pos e1]; decide
      · rw [if_neg e1]
        by_cases e2 : a ≤ 2 * k + 3
        · rw [if_pos e2, if_neg (by omega)]; decide
        · rw [if_neg e2]; decide
theorem turn_1b {k j a b : Nat} (ha : 1 ≤ a) (hb : b < 2 * j + 4) : stepM (FC k j) (cS k j a b) 1 = cS k j a (b + 1) ∧ ∃ op : Int, (tells (FC k j) (cS k j a b) 1).op = op ∧ moves1 j (b + 1) = moves1 j b + (if op = 4 then 1 else 0) := by
  obtain ⟨h1, h2⟩ := turn_1 (k := k) ha hb
  refine ⟨h1, _, h2, ?_⟩
  rw [moves1_step j b hb]
  congr 1
  by_cases e : b ≠ 0 ∧ b ≤ 2 * j + 2 ∧ b % 2 = 1
  · rw [if_pos e, if_neg e.1, if_pos e.2.1, if_neg (show ¬ b % 2 = 0 by omega), if_pos rfl]
  · rw [if_neg e, if_neg]
    by_cases e0 : b = 0
    · rw [if_pos e0]; decide
    · rw [if_neg e0]
      by_cases e2 : b ≤ 2 * j + 2
      · rw [if_pos e2, if_pos (by omega)]; decide
      · rw [if_neg e2]; decide
theorem tells_g (F : Fns) (m : MS) (g : Nat) : (tells F m g).g = g := rfl
/-- The way of the rounds. -/
structure WayC (k j i a b : Nat) : Prop where
  a1 : a ≤ 2 * k + 5
  b1 : b ≤ 2 * j + 4
  ne : ¬ (a = 2 * k + 5 ∧ b = 2 * j + 4)
  p1 : a < 2 * k + 5 → i ≤ 2 * a
  p2 : a = 2 * k + 5 → i ≤ 2 * a + b
  z : a = 0 → b = 0

def cnt2 (x y : Nat) : Array Value := #[.int .i64 (x : Nat), .int .i64 (y : Nat)]

set_option maxRecDepth 10000 in
set_option maxHeartbeats 25600000 in
theorem counts_walk (n m : Int) (k j : Nat) (w : World) (hk : (IntKind.u64.wrap n).tmod 700 = (k : Int)) (hk2 : k < 700) (hj : (IntKind.u64.wrap m).tmod 50 = (j : Int)) (hj2 : j < 50) :
    Calls Try.prog 8 #[.int .i64 n, .int .i64 m] w fun e w' => e = .returned (.bool true) ∧ Below w.heap.size w w' := by
  have e0 : IntKind.i64.wrap (k : Int) = (k : Int) := by rw [IntKind.wrap_i64]; omega
  have e1 : IntKind.i64.wrap (j : Int) = (j : Int) := by rw [IntKind.wrap_i64]; omega
  obtain ⟨q, hq⟩ : ∃ q, k / 256 = q := ⟨_, rfl⟩
  obtain ⟨r, hr⟩ : ∃ r, k % 256 = r := ⟨_, rfl⟩
  have e2 := and255 k
  rw [hr] at e2
  have e3 : (k : Int) / 256 = (q : Int) := by omega
  have hF0 : Hid ([(8, 1, 0, 0)] ++ [(16, (q : Int), (r : Int), 0), (4, 1, 2, 0), (17, 2, 0, 0)] = f0C k) := Lib.hid (by unfold f0C; rw [hq, hr]; rfl)
  clear hq hr
  have HF := Lib.hid (may_C k j hk2 hj2)
  have b1 := Box.fresh w #[.int .i64 8, .int .i64 1, .int .i64 0, .int .i64 0] 40
  have x1 := Ex.made w (.cells #[.int .i64 8, .int .i64 1, .int .i64 0, .int .i64 0] 40)
  have hs1 : (w.alloc (.cells #[.int .i64 8, .int .i64 1, .int .i64 0, .int .i64 0] 40)).heap.size = w.heap.size + 1 := by simp
  obtain ⟨W1, hW1⟩ : ∃ W, W = w.alloc (.cells #[.int .i64 8, .int .i64 1, .int .i64 0, .int .i64 0] 40) := ⟨_, rfl⟩
  rw [← hW1] at b1 x1 hs1
  have b2 := Box.fresh W1 #[.int .i64 16, .int .i64 (q : Int), .int .i64 (r : Int), .int .i64 0, .int .i64 4, .int .i64 1, .int .i64 2, .int .i64 0, .int .i64 17, .int .i64 2, .int .i64 0, .int .i64 0] 40
  have x2 := Ex.made W1 (.cells #[.int .i64 16, .int .i64 (q : Int), .int .i64 (r : Int), .int .i64 0, .int .i64 4, .int .i64 1, .int .i64 2, .int .i64 0, .int .i64 17, .int .i64 2, .int .i64 0, .int .i64 0] 40)
  obtain ⟨W2, hW2⟩ : ∃ W, W = W1.alloc (.cells #[.int .i64 16, .int .i64 (q : Int), .int .i64 (r : Int), .int .i64 0, .int .i64 4, .int .i64 1, .int .i64 2, .int .i64 0, .int .i64 17, .int .i64 2, .int .i64 0, .int .i64 0] 40) := ⟨_, rfl⟩
  rw [← hW2] at b2 x2
  rw [hW1] at hW2
  have HW2 := Lib.hid hW2
  have HB1 : Hid (RowJ W2 w.heap.size (.slice (some ⟨w.heap.size, 0, none⟩) 1 1) [(8, 1, 0, 0)]) := Lib.hid (RowJ.box (b1.ex x2) rfl rfl (by omega) (Nat.le_refl _))
  have HB2 : Hid (Box W2 (w.heap.size + 1) #[.int .i64 16, .int .i64 (q : Int), .int .i64 (r : Int), .int .i64 0, .int .i64 4, .int .i64 1, .int .i64 2, .int .i64 0, .int .i64 17, .int .i64 2, .int .i64 0, .int .i64 0] 40) := Lib.hid (hs1 ▸ b2)
  have HX2 := Lib.hid (Ex.trans x1 x2)
  clear b1 x1 hs1 b2 x2 hW1 hW2
  go_enter Try.func8, Try.ntmps8
  go_wp2_with (at_builtin; rw [← HW2.out]; refine wpList_append_insts _ rfl (.tmp 23) (.tmp 31) rfl (B := w.heap.size) (l := [(8, 1, 0, 0)]) (M := [(16, (q : Int), (r : Int), 0), (4, 1, 2, 0), (17, 2, 0, 0)]) rfl HB1.out HX2.out.size rfl HB2.out rfl rfl (by decide) (by decide) (L := f0C k) hF0.out (N := 4) rfl ?_)
  intro g cap w3 h1 h2 h3 h4 h5
  have H1 := Lib.hid h1
  have H2 := Lib.hid (ex_grownJ HB1.out HX2.out HX2.out.size h2)
  clear h1 h2 h3 h4 h5 HB1 HB2 HX2 HW2
  go_wp2_with fail
  refine (loop_C w3 j hj2).mono ?_
  rintro e w4 ⟨b, rfl, hb, x4⟩
  have hb5 := Box.fresh w4 #[.slice (some ⟨g, 0, none⟩) 4 cap, .slice (some ⟨b, 0, none⟩) 3 3] 42
  have x5 := Ex.made w4 (.cells #[.slice (some ⟨g, 0, none⟩) 4 cap, .slice (some ⟨b, 0, none⟩) 3 3] 42)
  go_wp2_with fail
  generalize w4.alloc (.cells #[.slice (some ⟨g, 0, none⟩) 4 cap, .slice (some ⟨b, 0, none⟩) 3 3] 42) = W5 at *
  have hp : C15.RdP W5 (.slice (some ⟨w4.heap.size, 0, none⟩) 2 2) (FC k j) := by
    refine rdP_box (F := FC k j) (cap := 2) (lv := fun i => if i = 0 then .slice (some ⟨g, 0, none⟩) 4 cap else .slice (some ⟨b, 0, none⟩) 3 3) hb5 (by simp [FC]) (fun i hi => ?_)
    have : i = 0 ∨ i = 1 := by have : i < 2 := hi; omega
    rcases this with rfl | rfl
    · exact ((H1.out.ex x4).ex x5).rd
    · exact rdI_box (l := f1C j) (cap := 3) (hb.ex x5) (by simp [f1C])
  have HX5 := Lib.hid (Ex.trans H2.out (x4.trans x5))
  have HB5 : Hid (w.heap.size ≤ W5.heap.size) := Lib.hid HX5.out.size
  refine (build_any (gn := 0) hp (Ex.refl _) HF.out).mono ?_
  rintro e w6 ⟨mb, rfl, h6, x6⟩
  have HM6 := Lib.hid h6
  have HX6 := Lib.hid (HX5.out.trans x6)
  have hms : (Instr.makeSlice 44 (.int .i64 2) (.int .i64 2)).run Try.prog w6 = .ok (.slice (some ⟨w6.heap.size, 0, none⟩) 2 2) (w6.alloc (.cells (cnt2 0 0) 3)) := by kernel_rfl
  clear hp hb hb5 x4 x5 h6 x6 HX5 H1 H2 HF
  go_wp2_with fail
  have b7 := Box.fresh w6 (cnt2 0 0) 3
  have x7 := Ex.made w6 (.cells (cnt2 0 0) 3)
  have hs7 : w6.heap.size < (w6.alloc (.cells (cnt2 0 0) 3)).heap.size := by simp
  generalize w6.alloc (.cells (cnt2 0 0) 3) = W7 at *
  obtain ⟨mk, hmk⟩ : ∃ b, w6.heap.size = b := ⟨_, rfl⟩
  rw [hmk] at b7 hs7 ⊢
  have HM7 := Lib.hid (HM6.out.own x7 (fun i => i = mk) (fun i hi => .inr (by subst hi; omega)))
  have HX7 := Lib.hid (HX6.out.trans x7)
  have HB7 := Lib.hid b7
  have HMK : Hid (w.heap.size ≤ mk) := Lib.hid (by rw [← hmk]; exact HX6.out.size)
  clear b7 x7 hs7 hmk hms HM6 HX6
  go_loopw [10] (fun q W => ∃ i a b : Nat, i ≤ 5000 ∧ q = .int .i64 i ∧ WayC k j i a b ∧ Mo W5.heap.size (fun i => i = mk) W mb (FC k j) 0 (a + b) (cS k j a b) ∧ Ex w W ∧ Box W mk (cnt2 (moves0 k a) (moves1 j b)) 3) (fun q _ => 5000 - (intOf q).toNat)
  case atStart => exact ⟨0, 0, 0, Nat.zero_le _, rfl, ⟨by omega, by omega, by omega, by omega, by omega, by omega⟩, HM7.out, HX7.out, HB7.out⟩
  case round =>
    clear HM7 HX7 HB7
    obtain ⟨i, a, b, hi, rfl, hway, hm, hx, hbx⟩ := hrel
    have HM := Lib.hid hm
    have HX := Lib.hid hx
    have HB := Lib.hid hbx
    have HW := Lib.hid hway
    clear hm hx hbx hway
    have hi2 : i < 5000 := by have := HW.out; obtain ⟨q1, q2, q3, q4, q5, q6⟩ := this; omega
    have hi3 : (i : Int) < 5000 := by omega
    have HI := Lib.hid hi2
    clear hi2
    obtain ⟨f1, f2, f3, f4, -⟩ := cS_facts k j a b HW.out.a1
    have KS := Lib.hid (mo_state HM.out 0 _ f2)
    have KG := Lib.hid (mo_gs HM.out)
    rw [f1] at KG
    have F1 := Lib.hid f1
    have F2 := Lib.hid f2
    have F3 := Lib.hid f3
    have F4 := Lib.hid f4
    clear f1 f2 f3 f4
    by_cases hdead : a = 2 * k + 5
    · rw [if_pos hdead, show ((5 : Nat) : Int) = 5 from rfl] at KS
      rw [if_neg (show ¬ a = 0 by omega), show ((2 : Nat) : Int) = 2 from rfl] at KG
      obtain ⟨pr, hpr⟩ : ∃ r, (i : Int).tmod 2 = r := ⟨_, rfl⟩
      go_wp2_with fail
      refine KS.out.mono ?_
      rintro e w8 ⟨rfl, rfl⟩
      go_wp2_with fail
      refine KG.out.mono ?_
      rintro e w8 ⟨rfl, rfl⟩
      go_wp2_with fail
      obtain ⟨s1, op, s2, s3⟩ := turn_1b (k := k) (j := j) (a := a) (b := b) (by obtain ⟨q1, q2, q3, q4, q5, q6⟩ := HW.out; omega) (by obtain ⟨q1, q2, q3, q4, q5, q6⟩ := HW.out; omega)
      have S3 := Lib.hid s3
      have KD := Lib.hid (mo_do HM.out (by obtain ⟨q1, q2, q3, q4, q5, q6⟩ := HW.out; omega) (by rw [F4.out]; decide) (g := 1) (by rw [F1.out]; split <;> omega) (by rw [F3.out (by obtain ⟨q1, q2, q3, q4, q5, q6⟩ := HW.out; omega), if_neg (by obtain ⟨q1, q2, q3, q4, q5, q6⟩ := HW.out; omega)]))
      rw [s1] at KD
      unfold cmV at KD
      rw [s2, tells_g, show a + b + 1 = a + (b + 1) by omega] at KD
      generalize tells (FC k j) (cS k j a b) 1 = c at KD
      rw [show ((1 : Nat) : Int) = 1 from rfl] at KD
      clear s1 s2 s3
      refine KD.out.mono ?_
      rintro e w6 ⟨rfl, h6, t6⟩
      have HM6 := Lib.hid h6
      have HX6 := Lib.hid (t6.go HX.out HB5.out)
      have HB6 := Lib.hid (t6.box HB.out (.inr rfl))
      clear h6 t6 KD
      have x7 := Ex.made w6 (.cells #[.int .i64 1, .int .i64 (c.f : Nat), .int .i64 (c.pc : Nat), .int .i64 op, .int .i64 c.v, .bool c.bad] 34)
      have cb := Box.fresh w6 #[.int .i64 1, .int .i64 (c.f : Nat), .int .i64 (c.pc : Nat), .int .i64 op, .int .i64 c.v, .bool c.bad] 34
      by_cases hop : op = 4
      · subst hop
        rw [if_pos rfl] at S3
        go_upto_region 17 with fail
        generalize w6.alloc (.cells #[.int .i64 1, .int .i64 (c.f : Nat), .int .i64 (c.pc : Nat), .int .i64 4, .int .i64 c.v, .bool c.bad] 34) = W7 at *
        have HM7 := Lib.hid (HM6.out.ex x7)
        have HX7 := Lib.hid (HX6.out.trans x7)
        have B7 := HB6.out.ex x7
        have d0 : W7.cell? ⟨w6.heap.size, 0, none⟩ = some (.int .i64 1) := cb.cell 0
        have d1 : W7.cell? ⟨mk, 1, none⟩ = some (.int .i64 (moves1 j b : Nat)) := B7.cell 1
        have d2 := B7.soft 1
        have hb0 : moves1 j b ≤ 1000 := by unfold moves1; omega
        have g0 : IntKind.i64.wrap (((moves1 j b : Nat) : Int) + 1) = ((moves1 j (b + 1) : Nat) : Int) := by rw [IntKind.wrap_i64, S3.out]; omega
        have B8 : Box (W7.setCell ⟨mk, 1, none⟩ (.int .i64 ((moves1 j (b + 1) : Nat) : Int))) mk (cnt2 (moves0 k a) (moves1 j (b + 1))) 3 := B7.put 1 _
        have c8 : Chg (fun i => i = mk) W7 (W7.setCell ⟨mk, 1, none⟩ (.int .i64 ((moves1 j (b + 1) : Nat) : Int))) := Chg.cell (F := fun i => i = mk) W7 ⟨mk, 1, none⟩ _ rfl
        have HM8 := Lib.hid (HM7.out.mine c8)
        have HX8 := Lib.hid (ex_put HX7.out HMK.out 1 (.int .i64 ((moves1 j (b + 1) : Nat) : Int)))
        have HB8 := Lib.hid B8
        clear HM6 HX6 HB6 HM7 HX7 B7 B8 c8 x7 cb
        obtain ⟨mv, hmv⟩ : ∃ x, moves1 j b = x := ⟨_, rfl⟩
        obtain ⟨mw, hmw⟩ : ∃ x, moves1 j (b + 1) = x := ⟨_, rfl⟩
        rw [hmv] at d1 g0
        rw [hmw] at g0 HM8 HX8 HB8
        have HMW := Lib.hid hmw
        clear hmv hb0
        have HM9 : Hid (Mo W5.heap.size (fun i => i = mk) (W7.setCell ⟨mk, 1, none⟩ (.int .i64 (mw : Nat))) mb (FC k j) 0 (a + (b + 1)) (cS k j (a) (b + 1))) := HM8
        clear HM8 hmw
        go_upto_region 18 with fail
        obtain ⟨W8, hW8⟩ : ∃ W, W = W7.setCell ⟨mk, 1, none⟩ (.int .i64 (mw : Nat)) := ⟨_, rfl⟩
        rw [← hW8] at HM9 HX8 HB8 ⊢
        rw [← HMW.out] at HB8
        clear hW8 d0 d1 d2
        obtain ⟨f1, f2, f3, f4, -⟩ := cS_facts k j (a) (b + 1) (by have := HW.out; obtain ⟨q1, q2, q3, q4, q5, q6⟩ := this; omega)
        rw [if_neg (show ¬ a = 0 by omega)] at f1
        have f3 := f3 (by omega)
        have KG2 := Lib.hid (mo_gs HM9.out)
        rw [f1, show ((2 : Nat) : Int) = 2 from rfl] at KG2
        have KS2 := Lib.hid (mo_state HM9.out 0 _ f2)
        have KS3 := Lib.hid (mo_state HM9.out 1 _ f3)
        clear f1 f2 f3 f4
        go_wp2_with fail
        refine KG2.out.mono ?_
        rintro e w9 ⟨rfl, rfl⟩
        go_wp2_with fail
        by_cases hd : a = 2 * k + 5
        · rw [if_pos hd, show ((5 : Nat) : Int) = 5 from rfl] at KS2
          refine KS2.out.mono ?_
          rintro e w9 ⟨rfl, rfl⟩
          go_wp2_with fail
          by_cases he : b + 1 = 2 * j + 4
          · rw [if_pos he, show ((5 : Nat) : Int) = 5 from rfl] at KS3
            refine KS3.out.mono ?_
            rintro e w9 ⟨rfl, rfl⟩
            rw [hd, he] at HM9 HB8
            go_wp2_with fail
            refine (told_any _).mono ?_
            rintro e w9 ⟨rfl, x9⟩
            have HM9 := Lib.hid (HM9.out.ex x9)
            have HX9 := Lib.hid (HX8.out.trans x9)
            have B9 := HB8.out.ex x9
            have m1 : moves0 k (2 * k + 5) = k + 1 := by unfold moves0; omega
            have m2 : moves1 j (2 * j + 4) = j + 1 := by unfold moves1; omega
            rw [m1, m2] at B9
            have c0 : w9.cell? ⟨mk, 0, none⟩ = some (.int .i64 ((k + 1 : Nat) : Int)) := B9.cell 0
            have c1 : w9.cell? ⟨mk, 1, none⟩ = some (.int .i64 ((j + 1 : Nat) : Int)) := B9.cell 1
            have g1 : IntKind.i64.wrap ((k : Int) + 1) = ((k + 1 : Nat) : Int) := by rw [IntKind.wrap_i64]; omega
            have g2 : IntKind.i64.wrap ((j : Int) + 1) = ((j + 1 : Nat) : Int) := by rw [IntKind.wrap_i64]; omega
            obtain ⟨f1, f2, f3, f4, -⟩ := cS_facts k j (2 * k + 5) (2 * j + 4) (Nat.le_refl _)
            rw [if_pos rfl] at f2
            have f3 := f3 (by omega)
            rw [if_pos rfl] at f3
            have K1 := Lib.hid (mo_state HM9.out 0 5 f2)
            have K2 := Lib.hid (mo_state HM9.out 1 5 f3)
            have K3 := Lib.hid (mo_stuck HM9.out (by omega))
            rw [cS_stuck] at K3
            clear f1 f2 f3 f4 B9 x9 m1 m2
            go_wp2_with fail
            refine K1.out.mono ?_
            rintro e w10 ⟨rfl, rfl⟩
            go_wp2_with fail
            refine K2.out.mono ?_
            rintro e w10 ⟨rfl, rfl⟩
            go_wp2_with fail
            refine K3.out.mono ?_
            rintro e w10 ⟨rfl, rfl⟩
            go_wp2_with fail
            go_ret
            exact ⟨rfl, HX9.out⟩
          · rw [if_neg he, show ((1 : Nat) : Int) = 1 from rfl] at KS3
            refine KS3.out.mono ?_
            rintro e w9 ⟨rfl, rfl⟩
            go_wp2_with fail
            go_roundw
            case rel => exact ⟨i + 1, a, b + 1, by omega, by go_num, (by obtain ⟨q1, q2, q3, q4, q5, q6⟩ := HW.out; constructor <;> omega), HM9.out, HX8.out, HB8.out⟩
            case measure => simp [intOf]; omega
        · rw [if_neg hd, show ((1 : Nat) : Int) = 1 from rfl] at KS2
          refine KS2.out.mono ?_
          rintro e w9 ⟨rfl, rfl⟩
          go_wp2_with fail
          go_roundw
          case rel => exact ⟨i + 1, a, b + 1, by omega, by go_num, (by obtain ⟨q1, q2, q3, q4, q5, q6⟩ := HW.out; constructor <;> omega), HM9.out, HX8.out, HB8.out⟩
          case measure => simp [intOf]; omega
      · have hop2 : (op == 4) = false := by simp [hop]
        have S4 : moves1 j (b + 1) = moves1 j b := by have := S3.out; rw [if_neg hop] at this; exact this
        have HM7 := Lib.hid (HM6.out.ex x7)
        have HX7 := Lib.hid (HX6.out.trans x7)
        have HB7 := Lib.hid (HB6.out.ex x7)
        rw [← S4] at HB7
        clear S3 S4
        go_upto_region 18 with fail
        generalize w6.alloc (.cells #[.int .i64 1, .int .i64 (c.f : Nat), .int .i64 (c.pc : Nat), .int .i64 op, .int .i64 c.v, .bool c.bad] 34) = W7 at *
        clear HM6 HX6 HB6 x7 cb
        obtain ⟨f1, f2, f3, f4, -⟩ := cS_facts k j (a) (b + 1) (by have := HW.out; obtain ⟨q1, q2, q3, q4, q5, q6⟩ := this; omega)
        rw [if_neg (show ¬ a = 0 by omega)] at f1
        have f3 := f3 (by omega)
        have KG2 := Lib.hid (mo_gs HM7.out)
        rw [f1, show ((2 : Nat) : Int) = 2 from rfl] at KG2
        have KS2 := Lib.hid (mo_state HM7.out 0 _ f2)
        have KS3 := Lib.hid (mo_state HM7.out 1 _ f3)
        clear f1 f2 f3 f4
        go_wp2_with fail
        refine KG2.out.mono ?_
        rintro e w9 ⟨rfl, rfl⟩
        go_wp2_with fail
        by_cases hd : a = 2 * k + 5
        · rw [if_pos hd, show ((5 : Nat) : Int) = 5 from rfl] at KS2
          refine KS2.out.mono ?_
          rintro e w9 ⟨rfl, rfl⟩
          go_wp2_with fail
          by_cases he : b + 1 = 2 * j + 4
          · rw [if_pos he, show ((5 : Nat) : Int) = 5 from rfl] at KS3
            refine KS3.out.mono ?_
            rintro e w9 ⟨rfl, rfl⟩
            rw [hd, he] at HM7 HB7
            go_wp2_with fail
            refine (told_any _).mono ?_
            rintro e w9 ⟨rfl, x9⟩
            have HM9 := Lib.hid (HM7.out.ex x9)
            have HX9 := Lib.hid (HX7.out.trans x9)
            have B9 := HB7.out.ex x9
            have m1 : moves0 k (2 * k + 5) = k + 1 := by unfold moves0; omega
            have m2 : moves1 j (2 * j + 4) = j + 1 := by unfold moves1; omega
            rw [m1, m2] at B9
            have c0 : w9.cell? ⟨mk, 0, none⟩ = some (.int .i64 ((k + 1 : Nat) : Int)) := B9.cell 0
            have c1 : w9.cell? ⟨mk, 1, none⟩ = some (.int .i64 ((j + 1 : Nat) : Int)) := B9.cell 1
            have g1 : IntKind.i64.wrap ((k : Int) + 1) = ((k + 1 : Nat) : Int) := by rw [IntKind.wrap_i64]; omega
            have g2 : IntKind.i64.wrap ((j : Int) + 1) = ((j + 1 : Nat) : Int) := by rw [IntKind.wrap_i64]; omega
            obtain ⟨f1, f2, f3, f4, -⟩ := cS_facts k j (2 * k + 5) (2 * j + 4) (Nat.le_refl _)
            rw [if_pos rfl] at f2
            have f3 := f3 (by omega)
            rw [if_pos rfl] at f3
            have K1 := Lib.hid (mo_state HM9.out 0 5 f2)
            have K2 := Lib.hid (mo_state HM9.out 1 5 f3)
            have K3 := Lib.hid (mo_stuck HM9.out (by omega))
            rw [cS_stuck] at K3
            clear f1 f2 f3 f4 B9 x9 m1 m2
            go_wp2_with fail
            refine K1.out.mono ?_
            rintro e w10 ⟨rfl, rfl⟩
            go_wp2_with fail
            refine K2.out.mono ?_
            rintro e w10 ⟨rfl, rfl⟩
            go_wp2_with fail
            refine K3.out.mono ?_
            rintro e w10 ⟨rfl, rfl⟩
            go_wp2_with fail
            go_ret
            exact ⟨rfl, HX9.out⟩
          · rw [if_neg he, show ((1 : Nat) : Int) = 1 from rfl] at KS3
            refine KS3.out.mono ?_
            rintro e w9 ⟨rfl, rfl⟩
            go_wp2_with fail
            go_roundw
            case rel => exact ⟨i + 1, a, b + 1, by omega, by go_num, (by obtain ⟨q1, q2, q3, q4, q5, q6⟩ := HW.out; constructor <;> omega), HM7.out, HX7.out, HB7.out⟩
            case measure => simp [intOf]; omega
        · rw [if_neg hd, show ((1 : Nat) : Int) = 1 from rfl] at KS2
          refine KS2.out.mono ?_
          rintro e w9 ⟨rfl, rfl⟩
          go_wp2_with fail
          go_roundw
          case rel => exact ⟨i + 1, a, b + 1, by omega, by go_num, (by obtain ⟨q1, q2, q3, q4, q5, q6⟩ := HW.out; constructor <;> omega), HM7.out, HX7.out, HB7.out⟩
          case measure => simp [intOf]; omega
    · rw [if_neg hdead, show ((1 : Nat) : Int) = 1 from rfl] at KS
      have hp2 : i ≤ 2 * a := HW.out.p1 (by have := HW.out.a1; omega)
      by_cases hpar : i % 2 = 0
      · have hpr : (i : Int).tmod 2 = 0 := by rw [Int.tmod_eq_emod_of_nonneg (by omega)]; omega
        go_wp2_with fail
        refine KS.out.mono ?_
        rintro e w8 ⟨rfl, rfl⟩
        go_wp2_with fail
        refine KG.out.mono ?_
        rintro e w8 ⟨rfl, rfl⟩
        by_cases h0 : a = 0
        · rw [if_pos h0, show ((1 : Nat) : Int) = 1 from rfl]
          go_wp2_with fail
          obtain ⟨s1, op, s2, s3⟩ := turn_0b (k := k) (j := j) (a := a) (b := b) (by obtain ⟨q1, q2, q3, q4, q5, q6⟩ := HW.out; omega) (by obtain ⟨q1, q2, q3, q4, q5, q6⟩ := HW.out; omega)
          have S3 := Lib.hid s3
          have KD := Lib.hid (mo_do HM.out (by obtain ⟨q1, q2, q3, q4, q5, q6⟩ := HW.out; omega) (by rw [F4.out]; decide) (g := 0) (by rw [F1.out]; split <;> omega) (by rw [F2.out, if_neg (by omega)]))
          rw [s1] at KD
          unfold cmV at KD
          rw [s2, tells_g, show a + b + 1 = a + 1 + (b) by omega] at KD
          generalize tells (FC k j) (cS k j a b) 0 = c at KD
          rw [show ((0 : Nat) : Int) = 0 from rfl] at KD
          clear s1 s2 s3
          refine KD.out.mono ?_
          rintro e w6 ⟨rfl, h6, t6⟩
          have HM6 := Lib.hid h6
          have HX6 := Lib.hid (t6.go HX.out HB5.out)
          have HB6 := Lib.hid (t6.box HB.out (.inr rfl))
          clear h6 t6 KD
          have x7 := Ex.made w6 (.cells #[.int .i64 0, .int .i64 (c.f : Nat), .int .i64 (c.pc : Nat), .int .i64 op, .int .i64 c.v, .bool c.bad] 34)
          have cb := Box.fresh w6 #[.int .i64 0, .int .i64 (c.f : Nat), .int .i64 (c.pc : Nat), .int .i64 op, .int .i64 c.v, .bool c.bad] 34
          by_cases hop : op = 4
          · subst hop
            rw [if_pos rfl] at S3
            go_upto_region 17 with fail
            generalize w6.alloc (.cells #[.int .i64 0, .int .i64 (c.f : Nat), .int .i64 (c.pc : Nat), .int .i64 4, .int .i64 c.v, .bool c.bad] 34) = W7 at *
            have HM7 := Lib.hid (HM6.out.ex x7)
            have HX7 := Lib.hid (HX6.out.trans x7)
            have B7 := HB6.out.ex x7
            have d0 : W7.cell? ⟨w6.heap.size, 0, none⟩ = some (.int .i64 0) := cb.cell 0
            have d1 : W7.cell? ⟨mk, 0, none⟩ = some (.int .i64 (moves0 k a : Nat)) := B7.cell 0
            have d2 := B7.soft 0
            have hb0 : moves0 k a ≤ 1000 := by unfold moves0; omega
            have g0 : IntKind.i64.wrap (((moves0 k a : Nat) : Int) + 1) = ((moves0 k (a + 1) : Nat) : Int) := by rw [IntKind.wrap_i64, S3.out]; omega
            have B8 : Box (W7.setCell ⟨mk, 0, none⟩ (.int .i64 ((moves0 k (a + 1) : Nat) : Int))) mk (cnt2 (moves0 k (a + 1)) (moves1 j b)) 3 := B7.put 0 _
            have c8 : Chg (fun i => i = mk) W7 (W7.setCell ⟨mk, 0, none⟩ (.int .i64 ((moves0 k (a + 1) : Nat) : Int))) := Chg.cell (F := fun i => i = mk) W7 ⟨mk, 0, none⟩ _ rfl
            have HM8 := Lib.hid (HM7.out.mine c8)
            have HX8 := Lib.hid (ex_put HX7.out HMK.out 0 (.int .i64 ((moves0 k (a + 1) : Nat) : Int)))
            have HB8 := Lib.hid B8
            clear HM6 HX6 HB6 HM7 HX7 B7 B8 c8 x7 cb
            obtain ⟨mv, hmv⟩ : ∃ x, moves0 k a = x := ⟨_, rfl⟩
            obtain ⟨mw, hmw⟩ : ∃ x, moves0 k (a + 1) = x := ⟨_, rfl⟩
            rw [hmv] at d1 g0
            rw [hmw] at g0 HM8 HX8 HB8
            have HMW := Lib.hid hmw
            clear hmv hb0
            have HM9 : Hid (Mo W5.heap.size (fun i => i = mk) (W7.setCell ⟨mk, 0, none⟩ (.int .i64 (mw : Nat))) mb (FC k j) 0 (a + 1 + (b)) (cS k j (a + 1) (b))) := HM8
            clear HM8 hmw
            go_upto_region 18 with fail
            obtain ⟨W8, hW8⟩ : ∃ W, W = W7.setCell ⟨mk, 0, none⟩ (.int .i64 (mw : Nat)) := ⟨_, rfl⟩
            rw [← hW8] at HM9 HX8 HB8 ⊢
            rw [← HMW.out] at HB8
            clear hW8 d0 d1 d2
            obtain ⟨f1, f2, f3, f4, -⟩ := cS_facts k j (a + 1) (b) (by have := HW.out; obtain ⟨q1, q2, q3, q4, q5, q6⟩ := this; omega)
            rw [if_neg (show ¬ a + 1 = 0 by omega)] at f1
            have f3 := f3 (by omega)
            have KG2 := Lib.hid (mo_gs HM9.out)
            rw [f1, show ((2 : Nat) : Int) = 2 from rfl] at KG2
            have KS2 := Lib.hid (mo_state HM9.out 0 _ f2)
            have KS3 := Lib.hid (mo_state HM9.out 1 _ f3)
            clear f1 f2 f3 f4
            go_wp2_with fail
            refine KG2.out.mono ?_
            rintro e w9 ⟨rfl, rfl⟩
            go_wp2_with fail
            by_cases hd : a + 1 = 2 * k + 5
            · rw [if_pos hd, show ((5 : Nat) : Int) = 5 from rfl] at KS2
              refine KS2.out.mono ?_
              rintro e w9 ⟨rfl, rfl⟩
              go_wp2_with fail
              by_cases he : b = 2 * j + 4
              · rw [if_pos he, show ((5 : Nat) : Int) = 5 from rfl] at KS3
                refine KS3.out.mono ?_
                rintro e w9 ⟨rfl, rfl⟩
                rw [hd, he] at HM9 HB8
                go_wp2_with fail
                refine (told_any _).mono ?_
                rintro e w9 ⟨rfl, x9⟩
                have HM9 := Lib.hid (HM9.out.ex x9)
                have HX9 := Lib.hid (HX8.out.trans x9)
                have B9 := HB8.out.ex x9
                have m1 : moves0 k (2 * k + 5) = k + 1 := by unfold moves0; omega
                have m2 : moves1 j (2 * j + 4) = j + 1 := by unfold moves1; omega
                rw [m1, m2] at B9
                have c0 : w9.cell? ⟨mk, 0, none⟩ = some (.int .i64 ((k + 1 : Nat) : Int)) := B9.cell 0
                have c1 : w9.cell? ⟨mk, 1, none⟩ = some (.int .i64 ((j + 1 : Nat) : Int)) := B9.cell 1
                have g1 : IntKind.i64.wrap ((k : Int) + 1) = ((k + 1 : Nat) : Int) := by rw [IntKind.wrap_i64]; omega
                have g2 : IntKind.i64.wrap ((j : Int) + 1) = ((j + 1 : Nat) : Int) := by rw [IntKind.wrap_i64]; omega
                obtain ⟨f1, f2, f3, f4, -⟩ := cS_facts k j (2 * k + 5) (2 * j + 4) (Nat.le_refl _)
                rw [if_pos rfl] at f2
                have f3 := f3 (by omega)
                rw [if_pos rfl] at f3
                have K1 := Lib.hid (mo_state HM9.out 0 5 f2)
                have K2 := Lib.hid (mo_state HM9.out 1 5 f3)
                have K3 := Lib.hid (mo_stuck HM9.out (by omega))
                rw [cS_stuck] at K3
                clear f1 f2 f3 f4 B9 x9 m1 m2
                go_wp2_with fail
                refine K1.out.mono ?_
                rintro e w10 ⟨rfl, rfl⟩
                go_wp2_with fail
                refine K2.out.mono ?_
                rintro e w10 ⟨rfl, rfl⟩
                go_wp2_with fail
                refine K3.out.mono ?_
                rintro e w10 ⟨rfl, rfl⟩
                go_wp2_with fail
                go_ret
                exact ⟨rfl, HX9.out⟩
              · rw [if_neg he, show ((1 : Nat) : Int) = 1 from rfl] at KS3
                refine KS3.out.mono ?_
                rintro e w9 ⟨rfl, rfl⟩
                go_wp2_with fail
                go_roundw
                case rel => exact ⟨i + 1, a + 1, b, by omega, by go_num, (by obtain ⟨q1, q2, q3, q4, q5, q6⟩ := HW.out; constructor <;> omega), HM9.out, HX8.out, HB8.out⟩
                case measure => simp [intOf]; omega
            · rw [if_neg hd, show ((1 : Nat) : Int) = 1 from rfl] at KS2
              refine KS2.out.mono ?_
              rintro e w9 ⟨rfl, rfl⟩
              go_wp2_with fail
              go_roundw
              case rel => exact ⟨i + 1, a + 1, b, by omega, by go_num, (by obtain ⟨q1, q2, q3, q4, q5, q6⟩ := HW.out; constructor <;> omega), HM9.out, HX8.out, HB8.out⟩
              case measure => simp [intOf]; omega
          · have hop2 : (op == 4) = false := by simp [hop]
            have S4 : moves0 k (a + 1) = moves0 k a := by have := S3.out; rw [if_neg hop] at this; exact this
            have HM7 := Lib.hid (HM6.out.ex x7)
            have HX7 := Lib.hid (HX6.out.trans x7)
            have HB7 := Lib.hid (HB6.out.ex x7)
            rw [← S4] at HB7
            clear S3 S4
            go_upto_region 18 with fail
            generalize w6.alloc (.cells #[.int .i64 0, .int .i64 (c.f : Nat), .int .i64 (c.pc : Nat), .int .i64 op, .int .i64 c.v, .bool c.bad] 34) = W7 at *
            clear HM6 HX6 HB6 x7 cb
            obtain ⟨f1, f2, f3, f4, -⟩ := cS_facts k j (a + 1) (b) (by have := HW.out; obtain ⟨q1, q2, q3, q4, q5, q6⟩ := this; omega)
            rw [if_neg (show ¬ a + 1 = 0 by omega)] at f1
            have f3 := f3 (by omega)
            have KG2 := Lib.hid (mo_gs HM7.out)
            rw [f1, show ((2 : Nat) : Int) = 2 from rfl] at KG2
            have KS2 := Lib.hid (mo_state HM7.out 0 _ f2)
            have KS3 := Lib.hid (mo_state HM7.out 1 _ f3)
            clear f1 f2 f3 f4
            go_wp2_with fail
            refine KG2.out.mono ?_
            rintro e w9 ⟨rfl, rfl⟩
            go_wp2_with fail
            by_cases hd : a + 1 = 2 * k + 5
            · rw [if_pos hd, show ((5 : Nat) : Int) = 5 from rfl] at KS2
              refine KS2.out.mono ?_
              rintro e w9 ⟨rfl, rfl⟩
              go_wp2_with fail
              by_cases he : b = 2 * j + 4
              · rw [if_pos he, show ((5 : Nat) : Int) = 5 from rfl] at KS3
                refine KS3.out.mono ?_
                rintro e w9 ⟨rfl, rfl⟩
                rw [hd, he] at HM7 HB7
                go_wp2_with fail
                refine (told_any _).mono ?_
                rintro e w9 ⟨rfl, x9⟩
                have HM9 := Lib.hid (HM7.out.ex x9)
                have HX9 := Lib.hid (HX7.out.trans x9)
                have B9 := HB7.out.ex x9
                have m1 : moves0 k (2 * k + 5) = k + 1 := by unfold moves0; omega
                have m2 : moves1 j (2 * j + 4) = j + 1 := by unfold moves1; omega
                rw [m1, m2] at B9
                have c0 : w9.cell? ⟨mk, 0, none⟩ = some (.int .i64 ((k + 1 : Nat) : Int)) := B9.cell 0
                have c1 : w9.cell? ⟨mk, 1, none⟩ = some (.int .i64 ((j + 1 : Nat) : Int)) := B9.cell 1
                have g1 : IntKind.i64.wrap ((k : Int) + 1) = ((k + 1 : Nat) : Int) := by rw [IntKind.wrap_i64]; omega
                have g2 : IntKind.i64.wrap ((j : Int) + 1) = ((j + 1 : Nat) : Int) := by rw [IntKind.wrap_i64]; omega
                obtain ⟨f1, f2, f3, f4, -⟩ := cS_facts k j (2 * k + 5) (2 * j + 4) (Nat.le_refl _)
                rw [if_pos rfl] at f2
                have f3 := f3 (by omega)
                rw [if_pos rfl] at f3
                have K1 := Lib.hid (mo_state HM9.out 0 5 f2)
                have K2 := Lib.hid (mo_state HM9.out 1 5 f3)
                have K3 := Lib.hid (mo_stuck HM9.out (by omega))
                rw [cS_stuck] at K3
                clear f1 f2 f3 f4 B9 x9 m1 m2
                go_wp2_with fail
                refine K1.out.mono ?_
                rintro e w10 ⟨rfl, rfl⟩
                go_wp2_with fail
                refine K2.out.mono ?_
                rintro e w10 ⟨rfl, rfl⟩
                go_wp2_with fail
                refine K3.out.mono ?_
                rintro e w10 ⟨rfl, rfl⟩
                go_wp2_with fail
                go_ret
                exact ⟨rfl, HX9.out⟩
              · rw [if_neg he, show ((1 : Nat) : Int) = 1 from rfl] at KS3
                refine KS3.out.mono ?_
                rintro e w9 ⟨rfl, rfl⟩
                go_wp2_with fail
                go_roundw
                case rel => exact ⟨i + 1, a + 1, b, by omega, by go_num, (by obtain ⟨q1, q2, q3, q4, q5, q6⟩ := HW.out; constructor <;> omega), HM7.out, HX7.out, HB7.out⟩
                case measure => simp [intOf]; omega
            · rw [if_neg hd, show ((1 : Nat) : Int) = 1 from rfl] at KS2
              refine KS2.out.mono ?_
              rintro e w9 ⟨rfl, rfl⟩
              go_wp2_with fail
              go_roundw
              case rel => exact ⟨i + 1, a + 1, b, by omega, by go_num, (by obtain ⟨q1, q2, q3, q4, q5, q6⟩ := HW.out; constructor <;> omega), HM7.out, HX7.out, HB7.out⟩
              case measure => simp [intOf]; omega
        · rw [if_neg h0, show ((2 : Nat) : Int) = 2 from rfl]
          go_wp2_with fail
          obtain ⟨s1, op, s2, s3⟩ := turn_0b (k := k) (j := j) (a := a) (b := b) (by obtain ⟨q1, q2, q3, q4, q5, q6⟩ := HW.out; omega) (by obtain ⟨q1, q2, q3, q4, q5, q6⟩ := HW.out; omega)
          have S3 := Lib.hid s3
          have KD := Lib.hid (mo_do HM.out (by obtain ⟨q1, q2, q3, q4, q5, q6⟩ := HW.out; omega) (by rw [F4.out]; decide) (g := 0) (by rw [F1.out]; split <;> omega) (by rw [F2.out, if_neg (by omega)]))
          rw [s1] at KD
          unfold cmV at KD
          rw [s2, tells_g, show a + b + 1 = a + 1 + (b) by omega] at KD
          generalize tells (FC k j) (cS k j a b) 0 = c at KD
          rw [show ((0 : Nat) : Int) = 0 from rfl] at KD
          clear s1 s2 s3
          refine KD.out.mono ?_
          rintro e w6 ⟨rfl, h6, t6⟩
          have HM6 := Lib.hid h6
          have HX6 := Lib.hid (t6.go HX.out HB5.out)
          have HB6 := Lib.hid (t6.box HB.out (.inr rfl))
          clear h6 t6 KD
          have x7 := Ex.made w6 (.cells #[.int .i64 0, .int .i64 (c.f : Nat), .int .i64 (c.pc : Nat), .int .i64 op, .int .i64 c.v, .bool c.bad] 34)
          have cb := Box.fresh w6 #[.int .i64 0, .int .i64 (c.f : Nat), .int .i64 (c.pc : Nat), .int .i64 op, .int .i64 c.v, .bool c.bad] 34
          by_cases hop : op = 4
          · subst hop
            rw [if_pos rfl] at S3
            go_upto_region 17 with fail
            generalize w6.alloc (.cells #[.int .i64 0, .int .i64 (c.f : Nat), .int .i64 (c.pc : Nat), .int .i64 4, .int .i64 c.v, .bool c.bad] 34) = W7 at *
            have HM7 := Lib.hid (HM6.out.ex x7)
            have HX7 := Lib.hid (HX6.out.trans x7)
            have B7 := HB6.out.ex x7
            have d0 : W7.cell? ⟨w6.heap.size, 0, none⟩ = some (.int .i64 0) := cb.cell 0
            have d1 : W7.cell? ⟨mk, 0, none⟩ = some (.int .i64 (moves0 k a : Nat)) := B7.cell 0
            have d2 := B7.soft 0
            have hb0 : moves0 k a ≤ 1000 := by unfold moves0; omega
            have g0 : IntKind.i64.wrap (((moves0 k a : Nat) : Int) + 1) = ((moves0 k (a + 1) : Nat) : Int) := by rw [IntKind.wrap_i64, S3.out]; omega
            have B8 : Box (W7.setCell ⟨mk, 0, none⟩ (.int .i64 ((moves0 k (a + 1) : Nat) : Int))) mk (cnt2 (moves0 k (a + 1)) (moves1 j b)) 3 := B7.put 0 _
            have c8 : Chg (fun i => i = mk) W7 (W7.setCell ⟨mk, 0, none⟩ (.int .i64 ((moves0 k (a + 1) : Nat) : Int))) := Chg.cell (F := fun i => i = mk) W7 ⟨mk, 0, none⟩ _ rfl
            have HM8 := Lib.hid (HM7.out.mine c8)
            have HX8 := Lib.hid (ex_put HX7.out HMK.out 0 (.int .i64 ((moves0 k (a + 1) : Nat) : Int)))
            have HB8 := Lib.hid B8
            clear HM6 HX6 HB6 HM7 HX7 B7 B8 c8 x7 cb
            obtain ⟨mv, hmv⟩ : ∃ x, moves0 k a = x := ⟨_, rfl⟩
            obtain ⟨mw, hmw⟩ : ∃ x, moves0 k (a + 1) = x := ⟨_, rfl⟩
            rw [hmv] at d1 g0
            rw [hmw] at g0 HM8 HX8 HB8
            have HMW := Lib.hid hmw
            clear hmv hb0
            have HM9 : Hid (Mo W5.heap.size (fun i => i = mk) (W7.setCell ⟨mk, 0, none⟩ (.int .i64 (mw : Nat))) mb (FC k j) 0 (a + 1 + (b)) (cS k j (a + 1) (b))) := HM8
            clear HM8 hmw
            go_upto_region 18 with fail
            obtain ⟨W8, hW8⟩ : ∃ W, W = W7.setCell ⟨mk, 0, none⟩ (.int .i64 (mw : Nat)) := ⟨_, rfl⟩
            rw [← hW8] at HM9 HX8 HB8 ⊢
            rw [← HMW.out] at HB8
            clear hW8 d0 d1 d2
            obtain ⟨f1, f2, f3, f4, -⟩ := cS_facts k j (a + 1) (b) (by have := HW.out; obtain ⟨q1, q2, q3, q4, q5, q6⟩ := this; omega)
            rw [if_neg (show ¬ a + 1 = 0 by omega)] at f1
            have f3 := f3 (by omega)
            have KG2 := Lib.hid (mo_gs HM9.out)
            rw [f1, show ((2 : Nat) : Int) = 2 from rfl] at KG2
            have KS2 := Lib.hid (mo_state HM9.out 0 _ f2)
            have KS3 := Lib.hid (mo_state HM9.out 1 _ f3)
            clear f1 f2 f3 f4
            go_wp2_with fail
            refine KG2.out.mono ?_
            rintro e w9 ⟨rfl, rfl⟩
            go_wp2_with fail
            by_cases hd : a + 1 = 2 * k + 5
            · rw [if_pos hd, show ((5 : Nat) : Int) = 5 from rfl] at KS2
              refine KS2.out.mono ?_
              rintro e w9 ⟨rfl, rfl⟩
              go_wp2_with fail
              by_cases he : b = 2 * j + 4
              · rw [if_pos he, show ((5 : Nat) : Int) = 5 from rfl] at KS3
                refine KS3.out.mono ?_
                rintro e w9 ⟨rfl, rfl⟩
                rw [hd, he] at HM9 HB8
                go_wp2_with fail
                refine (told_any _).mono ?_
                rintro e w9 ⟨rfl, x9⟩
                have HM9 := Lib.hid (HM9.out.ex x9)
                have HX9 := Lib.hid (HX8.out.trans x9)
                have B9 := HB8.out.ex x9
                have m1 : moves0 k (2 * k + 5) = k + 1 := by unfold moves0; omega
                have m2 : moves1 j (2 * j + 4) = j + 1 := by unfold moves1; omega
                rw [m1, m2] at B9
                have c0 : w9.cell? ⟨mk, 0, none⟩ = some (.int .i64 ((k + 1 : Nat) : Int)) := B9.cell 0
                have c1 : w9.cell? ⟨mk, 1, none⟩ = some (.int .i64 ((j + 1 : Nat) : Int)) := B9.cell 1
                have g1 : IntKind.i64.wrap ((k : Int) + 1) = ((k + 1 : Nat) : Int) := by rw [IntKind.wrap_i64]; omega
                have g2 : IntKind.i64.wrap ((j : Int) + 1) = ((j + 1 : Nat) : Int) := by rw [IntKind.wrap_i64]; omega
                obtain ⟨f1, f2, f3, f4, -⟩ := cS_facts k j (2 * k + 5) (2 * j + 4) (Nat.le_refl _)
                rw [if_pos rfl] at f2
                have f3 := f3 (by omega)
                rw [if_pos rfl] at f3
                have K1 := Lib.hid (mo_state HM9.out 0 5 f2)
                have K2 := Lib.hid (mo_state HM9.out 1 5 f3)
                have K3 := Lib.hid (mo_stuck HM9.out (by omega))
                rw [cS_stuck] at K3
                clear f1 f2 f3 f4 B9 x9 m1 m2
                go_wp2_with fail
                refine K1.out.mono ?_
                rintro e w10 ⟨rfl, rfl⟩
                go_wp2_with fail
                refine K2.out.mono ?_
                rintro e w10 ⟨rfl, rfl⟩
                go_wp2_with fail
                refine K3.out.mono ?_
                rintro e w10 ⟨rfl, rfl⟩
                go_wp2_with fail
                go_ret
                exact ⟨rfl, HX9.out⟩
              · rw [if_neg he, show ((1 : Nat) : Int) = 1 from rfl] at KS3
                refine KS3.out.mono ?_
                rintro e w9 ⟨rfl, rfl⟩
                go_wp2_with fail
                go_roundw
                case rel => exact ⟨i + 1, a + 1, b, by omega, by go_num, (by obtain ⟨q1, q2, q3, q4, q5, q6⟩ := HW.out; constructor <;> omega), HM9.out, HX8.out, HB8.out⟩
                case measure => simp [intOf]; omega
            · rw [if_neg hd, show ((1 : Nat) : Int) = 1 from rfl] at KS2
              refine KS2.out.mono ?_
              rintro e w9 ⟨rfl, rfl⟩
              go_wp2_with fail
              go_roundw
              case rel => exact ⟨i + 1, a + 1, b, by omega, by go_num, (by obtain ⟨q1, q2, q3, q4, q5, q6⟩ := HW.out; constructor <;> omega), HM9.out, HX8.out, HB8.out⟩
              case measure => simp [intOf]; omega
          · have hop2 : (op == 4) = false := by simp [hop]
            have S4 : moves0 k (a + 1) = moves0 k a := by have := S3.out; rw [if_neg hop] at this; exact this
            have HM7 := Lib.hid (HM6.out.ex x7)
            have HX7 := Lib.hid (HX6.out.trans x7)
            have HB7 := Lib.hid (HB6.out.ex x7)
            rw [← S4] at HB7
            clear S3 S4
            go_upto_region 18 with fail
            generalize w6.alloc (.cells #[.int .i64 0, .int .i64 (c.f : Nat), .int .i64 (c.pc : Nat), .int .i64 op, .int .i64 c.v, .bool c.bad] 34) = W7 at *
            clear HM6 HX6 HB6 x7 cb
            obtain ⟨f1, f2, f3, f4, -⟩ := cS_facts k j (a + 1) (b) (by have := HW.out; obtain ⟨q1, q2, q3, q4, q5, q6⟩ := this; omega)
            rw [if_neg (show ¬ a + 1 = 0 by omega)] at f1
            have f3 := f3 (by omega)
            have KG2 := Lib.hid (mo_gs HM7.out)
            rw [f1, show ((2 : Nat) : Int) = 2 from rfl] at KG2
            have KS2 := Lib.hid (mo_state HM7.out 0 _ f2)
            have KS3 := Lib.hid (mo_state HM7.out 1 _ f3)
            clear f1 f2 f3 f4
            go_wp2_with fail
            refine KG2.out.mono ?_
            rintro e w9 ⟨rfl, rfl⟩
            go_wp2_with fail
            by_cases hd : a + 1 = 2 * k + 5
            · rw [if_pos hd, show ((5 : Nat) : Int) = 5 from rfl] at KS2
              refine KS2.out.mono ?_
              rintro e w9 ⟨rfl, rfl⟩
              go_wp2_with fail
              by_cases he : b = 2 * j + 4
              · rw [if_pos he, show ((5 : Nat) : Int) = 5 from rfl] at KS3
                refine KS3.out.mono ?_
                rintro e w9 ⟨rfl, rfl⟩
                rw [hd, he] at HM7 HB7
                go_wp2_with fail
                refine (told_any _).mono ?_
                rintro e w9 ⟨rfl, x9⟩
                have HM9 := Lib.hid (HM7.out.ex x9)
                have HX9 := Lib.hid (HX7.out.trans x9)
                have B9 := HB7.out.ex x9
                have m1 : moves0 k (2 * k + 5) = k + 1 := by unfold moves0; omega
                have m2 : moves1 j (2 * j + 4) = j + 1 := by unfold moves1; omega
                rw [m1, m2] at B9
                have c0 : w9.cell? ⟨mk, 0, none⟩ = some (.int .i64 ((k + 1 : Nat) : Int)) := B9.cell 0
                have c1 : w9.cell? ⟨mk, 1, none⟩ = some (.int .i64 ((j + 1 : Nat) : Int)) := B9.cell 1
                have g1 : IntKind.i64.wrap ((k : Int) + 1) = ((k + 1 : Nat) : Int) := by rw [IntKind.wrap_i64]; omega
                have g2 : IntKind.i64.wrap ((j : Int) + 1) = ((j + 1 : Nat) : Int) := by rw [IntKind.wrap_i64]; omega
                obtain ⟨f1, f2, f3, f4, -⟩ := cS_facts k j (2 * k + 5) (2 * j + 4) (Nat.le_refl _)
                rw [if_pos rfl] at f2
                have f3 := f3 (by omega)
                rw [if_pos rfl] at f3
                have K1 := Lib.hid (mo_state HM9.out 0 5 f2)
                have K2 := Lib.hid (mo_state HM9.out 1 5 f3)
                have K3 := Lib.hid (mo_stuck HM9.out (by omega))
                rw [cS_stuck] at K3
                clear f1 f2 f3 f4 B9 x9 m1 m2
                go_wp2_with fail
                refine K1.out.mono ?_
                rintro e w10 ⟨rfl, rfl⟩
                go_wp2_with fail
                refine K2.out.mono ?_
                rintro e w10 ⟨rfl, rfl⟩
                go_wp2_with fail
                refine K3.out.mono ?_
                rintro e w10 ⟨rfl, rfl⟩
                go_wp2_with fail
                go_ret
                exact ⟨rfl, HX9.out⟩
              · rw [if_neg he, show ((1 : Nat) : Int) = 1 from rfl] at KS3
                refine KS3.out.mono ?_
                rintro e w9 ⟨rfl, rfl⟩
                go_wp2_with fail
                go_roundw
                case rel => exact ⟨i + 1, a + 1, b, by omega, by go_num, (by obtain ⟨q1, q2, q3, q4, q5, q6⟩ := HW.out; constructor <;> omega), HM7.out, HX7.out, HB7.out⟩
                case measure => simp [intOf]; omega
            · rw [if_neg hd, show ((1 : Nat) : Int) = 1 from rfl] at KS2
              refine KS2.out.mono ?_
              rintro e w9 ⟨rfl, rfl⟩
              go_wp2_with fail
              go_roundw
              case rel => exact ⟨i + 1, a + 1, b, by omega, by go_num, (by obtain ⟨q1, q2, q3, q4, q5, q6⟩ := HW.out; constructor <;> omega), HM7.out, HX7.out, HB7.out⟩
              case measure => simp [intOf]; omega
      · have hpr : (i : Int).tmod 2 = 1 := by rw [Int.tmod_eq_emod_of_nonneg (by omega)]; omega
        rw [if_neg (show ¬ a = 0 by omega), show ((2 : Nat) : Int) = 2 from rfl] at KG
        go_wp2_with fail
        refine KS.out.mono ?_
        rintro e w8 ⟨rfl, rfl⟩
        go_wp2_with fail
        refine KG.out.mono ?_
        rintro e w8 ⟨rfl, rfl⟩
        go_wp2_with fail
        by_cases hbd : b = 2 * j + 4
        · refine (mo_cant HM.out (g := 1) (by rw [F1.out, if_neg (by omega)]; omega) (by rw [F3.out (by omega), if_pos hbd]; decide)).mono ?_
          rintro e w6 ⟨rfl, x6⟩
          unfold noCm
          have x7 := Ex.made w6 (.cells #[.int .i64 0, .int .i64 0, .int .i64 0, .int .i64 0, .int .i64 0, .bool false] 34)
          have HM7 := Lib.hid ((HM.out.ex x6).ex x7)
          have HX7 := Lib.hid ((HX.out.trans x6).trans x7)
          have HB7 := Lib.hid ((HB.out.ex x6).ex x7)
          go_upto_region 18 with fail
          generalize w6.alloc (.cells #[.int .i64 0, .int .i64 0, .int .i64 0, .int .i64 0, .int .i64 0, .bool false] 34) = W7 at *
          clear x6 x7
          obtain ⟨f1, f2, f3, f4, -⟩ := cS_facts k j (a) (b) (by have := HW.out; obtain ⟨q1, q2, q3, q4, q5, q6⟩ := this; omega)
          rw [if_neg (show ¬ a = 0 by omega)] at f1
          have f3 := f3 (by omega)
          have KG2 := Lib.hid (mo_gs HM7.out)
          rw [f1, show ((2 : Nat) : Int) = 2 from rfl] at KG2
          have KS2 := Lib.hid (mo_state HM7.out 0 _ f2)
          have KS3 := Lib.hid (mo_state HM7.out 1 _ f3)
          clear f1 f2 f3 f4
          go_wp2_with fail
          refine KG2.out.mono ?_
          rintro e w9 ⟨rfl, rfl⟩
          go_wp2_with fail
          by_cases hd : a = 2 * k + 5
          · rw [if_pos hd, show ((5 : Nat) : Int) = 5 from rfl] at KS2
            refine KS2.out.mono ?_
            rintro e w9 ⟨rfl, rfl⟩
            go_wp2_with fail
            by_cases he : b = 2 * j + 4
            · rw [if_pos he, show ((5 : Nat) : Int) = 5 from rfl] at KS3
              refine KS3.out.mono ?_
              rintro e w9 ⟨rfl, rfl⟩
              rw [hd, he] at HM7 HB7
              go_wp2_with fail
              refine (told_any _).mono ?_
              rintro e w9 ⟨rfl, x9⟩
              have HM9 := Lib.hid (HM7.out.ex x9)
              have HX9 := Lib.hid (HX7.out.trans x9)
              have B9 := HB7.out.ex x9
              have m1 : moves0 k (2 * k + 5) = k + 1 := by unfold moves0; omega
              have m2 : moves1 j (2 * j + 4) = j + 1 := by unfold moves1; omega
              rw [m1, m2] at B9
              have c0 : w9.cell? ⟨mk, 0, none⟩ = some (.int .i64 ((k + 1 : Nat) : Int)) := B9.cell 0
              have c1 : w9.cell? ⟨mk, 1, none⟩ = some (.int .i64 ((j + 1 : Nat) : Int)) := B9.cell 1
              have g1 : IntKind.i64.wrap ((k : Int) + 1) = ((k + 1 : Nat) : Int) := by rw [IntKind.wrap_i64]; omega
              have g2 : IntKind.i64.wrap ((j : Int) + 1) = ((j + 1 : Nat) : Int) := by rw [IntKind.wrap_i64]; omega
              obtain ⟨f1, f2, f3, f4, -⟩ := cS_facts k j (2 * k + 5) (2 * j + 4) (Nat.le_refl _)
              rw [if_pos rfl] at f2
              have f3 := f3 (by omega)
              rw [if_pos rfl] at f3
              have K1 := Lib.hid (mo_state HM9.out 0 5 f2)
              have K2 := Lib.hid (mo_state HM9.out 1 5 f3)
              have K3 := Lib.hid (mo_stuck HM9.out (by omega))
              rw [cS_stuck] at K3
              clear f1 f2 f3 f4 B9 x9 m1 m2
              go_wp2_with fail
              refine K1.out.mono ?_
              rintro e w10 ⟨rfl, rfl⟩
              go_wp2_with fail
              refine K2.out.mono ?_
              rintro e w10 ⟨rfl, rfl⟩
              go_wp2_with fail
              refine K3.out.mono ?_
              rintro e w10 ⟨rfl, rfl⟩
              go_wp2_with fail
              go_ret
              exact ⟨rfl, HX9.out⟩
            · rw [if_neg he, show ((1 : Nat) : Int) = 1 from rfl] at KS3
              refine KS3.out.mono ?_
              rintro e w9 ⟨rfl, rfl⟩
              go_wp2_with fail
              go_roundw
              case rel => exact ⟨i + 1, a, b, by omega, by go_num, (by obtain ⟨q1, q2, q3, q4, q5, q6⟩ := HW.out; constructor <;> omega), HM7.out, HX7.out, HB7.out⟩
              case measure => simp [intOf]; omega
          · rw [if_neg hd, show ((1 : Nat) : Int) = 1 from rfl] at KS2
            refine KS2.out.mono ?_
            rintro e w9 ⟨rfl, rfl⟩
            go_wp2_with fail
            go_roundw
            case rel => exact ⟨i + 1, a, b, by omega, by go_num, (by obtain ⟨q1, q2, q3, q4, q5, q6⟩ := HW.out; constructor <;> omega), HM7.out, HX7.out, HB7.out⟩
            case measure => simp [intOf]; omega
        · skip
          obtain ⟨s1, op, s2, s3⟩ := turn_1b (k := k) (j := j) (a := a) (b := b) (by obtain ⟨q1, q2, q3, q4, q5, q6⟩ := HW.out; omega) (by obtain ⟨q1, q2, q3, q4, q5, q6⟩ := HW.out; omega)
          have S3 := Lib.hid s3
          have KD := Lib.hid (mo_do HM.out (by obtain ⟨q1, q2, q3, q4, q5, q6⟩ := HW.out; omega) (by rw [F4.out]; decide) (g := 1) (by rw [F1.out]; split <;> omega) (by rw [F3.out (by obtain ⟨q1, q2, q3, q4, q5, q6⟩ := HW.out; omega), if_neg (by obtain ⟨q1, q2, q3, q4, q5, q6⟩ := HW.out; omega)]))
          rw [s1] at KD
          unfold cmV at KD
          rw [s2, tells_g, show a + b + 1 = a + (b + 1) by omega] at KD
          generalize tells (FC k j) (cS k j a b) 1 = c at KD
          rw [show ((1 : Nat) : Int) = 1 from rfl] at KD
          clear s1 s2 s3
          refine KD.out.mono ?_
          rintro e w6 ⟨rfl, h6, t6⟩
          have HM6 := Lib.hid h6
          have HX6 := Lib.hid (t6.go HX.out HB5.out)
          have HB6 := Lib.hid (t6.box HB.out (.inr rfl))
          clear h6 t6 KD
          have x7 := Ex.made w6 (.cells #[.int .i64 1, .int .i64 (c.f : Nat), .int .i64 (c.pc : Nat), .int .i64 op, .int .i64 c.v, .bool c.bad] 34)
          have cb := Box.fresh w6 #[.int .i64 1, .int .i64 (c.f : Nat), .int .i64 (c.pc : Nat), .int .i64 op, .int .i64 c.v, .bool c.bad] 34
          by_cases hop : op = 4
          · subst hop
            rw [if_pos rfl] at S3
            go_upto_region 17 with fail
            generalize w6.alloc (.cells #[.int .i64 1, .int .i64 (c.f : Nat), .int .i64 (c.pc : Nat), .int .i64 4, .int .i64 c.v, .bool c.bad] 34) = W7 at *
            have HM7 := Lib.hid (HM6.out.ex x7)
            have HX7 := Lib.hid (HX6.out.trans x7)
            have B7 := HB6.out.ex x7
            have d0 : W7.cell? ⟨w6.heap.size, 0, none⟩ = some (.int .i64 1) := cb.cell 0
            have d1 : W7.cell? ⟨mk, 1, none⟩ = some (.int .i64 (moves1 j b : Nat)) := B7.cell 1
            have d2 := B7.soft 1
            have hb0 : moves1 j b ≤ 1000 := by unfold moves1; omega
            have g0 : IntKind.i64.wrap (((moves1 j b : Nat) : Int) + 1) = ((moves1 j (b + 1) : Nat) : Int) := by rw [IntKind.wrap_i64, S3.out]; omega
            have B8 : Box (W7.setCell ⟨mk, 1, none⟩ (.int .i64 ((moves1 j (b + 1) : Nat) : Int))) mk (cnt2 (moves0 k a) (moves1 j (b + 1))) 3 := B7.put 1 _
            have c8 : Chg (fun i => i = mk) W7 (W7.setCell ⟨mk, 1, none⟩ (.int .i64 ((moves1 j (b + 1) : Nat) : Int))) := Chg.cell (F := fun i => i = mk) W7 ⟨mk, 1, none⟩ _ rfl
            have HM8 := Lib.hid (HM7.out.mine c8)
            have HX8 := Lib.hid (ex_put HX7.out HMK.out 1 (.int .i64 ((moves1 j (b + 1) : Nat) : Int)))
            have HB8 := Lib.hid B8
            clear HM6 HX6 HB6 HM7 HX7 B7 B8 c8 x7 cb
            obtain ⟨mv, hmv⟩ : ∃ x, moves1 j b = x := ⟨_, rfl⟩
            obtain ⟨mw, hmw⟩ : ∃ x, moves1 j (b + 1) = x := ⟨_, rfl⟩
            rw [hmv] at d1 g0
            rw [hmw] at g0 HM8 HX8 HB8
            have HMW := Lib.hid hmw
            clear hmv hb0
            have HM9 : Hid (Mo W5.heap.size (fun i => i = mk) (W7.setCell ⟨mk, 1, none⟩ (.int .i64 (mw : Nat))) mb (FC k j) 0 (a + (b + 1)) (cS k j (a) (b + 1))) := HM8
            clear HM8 hmw
            go_upto_region 18 with fail
            obtain ⟨W8, hW8⟩ : ∃ W, W = W7.setCell ⟨mk, 1, none⟩ (.int .i64 (mw : Nat)) := ⟨_, rfl⟩
            rw [← hW8] at HM9 HX8 HB8 ⊢
            rw [← HMW.out] at HB8
            clear hW8 d0 d1 d2
            obtain ⟨f1, f2, f3, f4, -⟩ := cS_facts k j (a) (b + 1) (by have := HW.out; obtain ⟨q1, q2, q3, q4, q5, q6⟩ := this; omega)
            rw [if_neg (show ¬ a = 0 by omega)] at f1
            have f3 := f3 (by omega)
            have KG2 := Lib.hid (mo_gs HM9.out)
            rw [f1, show ((2 : Nat) : Int) = 2 from rfl] at KG2
            have KS2 := Lib.hid (mo_state HM9.out 0 _ f2)
            have KS3 := Lib.hid (mo_state HM9.out 1 _ f3)
            clear f1 f2 f3 f4
            go_wp2_with fail
            refine KG2.out.mono ?_
            rintro e w9 ⟨rfl, rfl⟩
            go_wp2_with fail
            by_cases hd : a = 2 * k + 5
            · rw [if_pos hd, show ((5 : Nat) : Int) = 5 from rfl] at KS2
              refine KS2.out.mono ?_
              rintro e w9 ⟨rfl, rfl⟩
              go_wp2_with fail
              by_cases he : b + 1 = 2 * j + 4
              · rw [if_pos he, show ((5 : Nat) : Int) = 5 from rfl] at KS3
                refine KS3.out.mono ?_
                rintro e w9 ⟨rfl, rfl⟩
                rw [hd, he] at HM9 HB8
                go_wp2_with fail
                refine (told_any _).mono ?_
                rintro e w9 ⟨rfl, x9⟩
                have HM9 := Lib.hid (HM9.out.ex x9)
                have HX9 := Lib.hid (HX8.out.trans x9)
                have B9 := HB8.out.ex x9
                have m1 : moves0 k (2 * k + 5) = k + 1 := by unfold moves0; omega
                have m2 : moves1 j (2 * j + 4) = j + 1 := by unfold moves1; omega
                rw [m1, m2] at B9
                have c0 : w9.cell? ⟨mk, 0, none⟩ = some (.int .i64 ((k + 1 : Nat) : Int)) := B9.cell 0
                have c1 : w9.cell? ⟨mk, 1, none⟩ = some (.int .i64 ((j + 1 : Nat) : Int)) := B9.cell 1
                have g1 : IntKind.i64.wrap ((k : Int) + 1) = ((k + 1 : Nat) : Int) := by rw [IntKind.wrap_i64]; omega
                have g2 : IntKind.i64.wrap ((j : Int) + 1) = ((j + 1 : Nat) : Int) := by rw [IntKind.wrap_i64]; omega
                obtain ⟨f1, f2, f3, f4, -⟩ := cS_facts k j (2 * k + 5) (2 * j + 4) (Nat.le_refl _)
                rw [if_pos rfl] at f2
                have f3 := f3 (by omega)
                rw [if_pos rfl] at f3
                have K1 := Lib.hid (mo_state HM9.out 0 5 f2)
                have K2 := Lib.hid (mo_state HM9.out 1 5 f3)
                have K3 := Lib.hid (mo_stuck HM9.out (by omega))
                rw [cS_stuck] at K3
                clear f1 f2 f3 f4 B9 x9 m1 m2
                go_wp2_with fail
                refine K1.out.mono ?_
                rintro e w10 ⟨rfl, rfl⟩
                go_wp2_with fail
                refine K2.out.mono ?_
                rintro e w10 ⟨rfl, rfl⟩
                go_wp2_with fail
                refine K3.out.mono ?_
                rintro e w10 ⟨rfl, rfl⟩
                go_wp2_with fail
                go_ret
                exact ⟨rfl, HX9.out⟩
              · rw [if_neg he, show ((1 : Nat) : Int) = 1 from rfl] at KS3
                refine KS3.out.mono ?_
                rintro e w9 ⟨rfl, rfl⟩
                go_wp2_with fail
                go_roundw
                case rel => exact ⟨i + 1, a, b + 1, by omega, by go_num, (by obtain ⟨q1, q2, q3, q4, q5, q6⟩ := HW.out; constructor <;> omega), HM9.out, HX8.out, HB8.out⟩
                case measure => simp [intOf]; omega
            · rw [if_neg hd, show ((1 : Nat) : Int) = 1 from rfl] at KS2
              refine KS2.out.mono ?_
              rintro e w9 ⟨rfl, rfl⟩
              go_wp2_with fail
              go_roundw
              case rel => exact ⟨i + 1, a, b + 1, by omega, by go_num, (by obtain ⟨q1, q2, q3, q4, q5, q6⟩ := HW.out; constructor <;> omega), HM9.out, HX8.out, HB8.out⟩
              case measure => simp [intOf]; omega
          · have hop2 : (op == 4) = false := by simp [hop]
            have S4 : moves1 j (b + 1) = moves1 j b := by have := S3.out; rw [if_neg hop] at this; exact this
            have HM7 := Lib.hid (HM6.out.ex x7)
            have HX7 := Lib.hid (HX6.out.trans x7)
            have HB7 := Lib.hid (HB6.out.ex x7)
            rw [← S4] at HB7
            clear S3 S4
            go_upto_region 18 with fail
            generalize w6.alloc (.cells #[.int .i64 1, .int .i64 (c.f : Nat), .int .i64 (c.pc : Nat), .int .i64 op, .int .i64 c.v, .bool c.bad] 34) = W7 at *
            clear HM6 HX6 HB6 x7 cb
            obtain ⟨f1, f2, f3, f4, -⟩ := cS_facts k j (a) (b + 1) (by have := HW.out; obtain ⟨q1, q2, q3, q4, q5, q6⟩ := this; omega)
            rw [if_neg (show ¬ a = 0 by omega)] at f1
            have f3 := f3 (by omega)
            have KG2 := Lib.hid (mo_gs HM7.out)
            rw [f1, show ((2 : Nat) : Int) = 2 from rfl] at KG2
            have KS2 := Lib.hid (mo_state HM7.out 0 _ f2)
            have KS3 := Lib.hid (mo_state HM7.out 1 _ f3)
            clear f1 f2 f3 f4
            go_wp2_with fail
            refine KG2.out.mono ?_
            rintro e w9 ⟨rfl, rfl⟩
            go_wp2_with fail
            by_cases hd : a = 2 * k + 5
            · rw [if_pos hd, show ((5 : Nat) : Int) = 5 from rfl] at KS2
              refine KS2.out.mono ?_
              rintro e w9 ⟨rfl, rfl⟩
              go_wp2_with fail
              by_cases he : b + 1 = 2 * j + 4
              · rw [if_pos he, show ((5 : Nat) : Int) = 5 from rfl] at KS3
                refine KS3.out.mono ?_
                rintro e w9 ⟨rfl, rfl⟩
                rw [hd, he] at HM7 HB7
                go_wp2_with fail
                refine (told_any _).mono ?_
                rintro e w9 ⟨rfl, x9⟩
                have HM9 := Lib.hid (HM7.out.ex x9)
                have HX9 := Lib.hid (HX7.out.trans x9)
                have B9 := HB7.out.ex x9
                have m1 : moves0 k (2 * k + 5) = k + 1 := by unfold moves0; omega
                have m2 : moves1 j (2 * j + 4) = j + 1 := by unfold moves1; omega
                rw [m1, m2] at B9
                have c0 : w9.cell? ⟨mk, 0, none⟩ = some (.int .i64 ((k + 1 : Nat) : Int)) := B9.cell 0
                have c1 : w9.cell? ⟨mk, 1, none⟩ = some (.int .i64 ((j + 1 : Nat) : Int)) := B9.cell 1
                have g1 : IntKind.i64.wrap ((k : Int) + 1) = ((k + 1 : Nat) : Int) := by rw [IntKind.wrap_i64]; omega
                have g2 : IntKind.i64.wrap ((j : Int) + 1) = ((j + 1 : Nat) : Int) := by rw [IntKind.wrap_i64]; omega
                obtain ⟨f1, f2, f3, f4, -⟩ := cS_facts k j (2 * k + 5) (2 * j + 4) (Nat.le_refl _)
                rw [if_pos rfl] at f2
                have f3 := f3 (by omega)
                rw [if_pos rfl] at f3
                have K1 := Lib.hid (mo_state HM9.out 0 5 f2)
                have K2 := Lib.hid (mo_state HM9.out 1 5 f3)
                have K3 := Lib.hid (mo_stuck HM9.out (by omega))
                rw [cS_stuck] at K3
                clear f1 f2 f3 f4 B9 x9 m1 m2
                go_wp2_with fail
                refine K1.out.mono ?_
                rintro e w10 ⟨rfl, rfl⟩
                go_wp2_with fail
                refine K2.out.mono ?_
                rintro e w10 ⟨rfl, rfl⟩
                go_wp2_with fail
                refine K3.out.mono ?_
                rintro e w10 ⟨rfl, rfl⟩
                go_wp2_with fail
                go_ret
                exact ⟨rfl, HX9.out⟩
              · rw [if_neg he, show ((1 : Nat) : Int) = 1 from rfl] at KS3
                refine KS3.out.mono ?_
                rintro e w9 ⟨rfl, rfl⟩
                go_wp2_with fail
                go_roundw
                case rel => exact ⟨i + 1, a, b + 1, by omega, by go_num, (by obtain ⟨q1, q2, q3, q4, q5, q6⟩ := HW.out; constructor <;> omega), HM7.out, HX7.out, HB7.out⟩
                case measure => simp [intOf]; omega
            · rw [if_neg hd, show ((1 : Nat) : Int) = 1 from rfl] at KS2
              refine KS2.out.mono ?_
              rintro e w9 ⟨rfl, rfl⟩
              go_wp2_with fail
              go_roundw
              case rel => exact ⟨i + 1, a, b + 1, by omega, by go_num, (by obtain ⟨q1, q2, q3, q4, q5, q6⟩ := HW.out; constructor <;> omega), HM7.out, HX7.out, HB7.out⟩
              case measure => simp [intOf]; omega

theorem walk_ModelCounts (a0 a1 : Int) (w0 : (Lit.int .i64 a0).wf = true) (w1 : (Lit.int .i64 a1).wf = true) (w : World) :
    Calls Try.prog 8 #[.int .i64 a0, .int .i64 a1] w fun e w' => e = .returned (.bool true) ∧ Below w.heap.size w w' := by
  obtain ⟨h0, h1⟩ := utmod a0 700 (by omega)
  obtain ⟨h2, h3⟩ := utmod a1 50 (by omega)
  exact counts_walk a0 a1 ((IntKind.u64.wrap a0).tmod 700).toNat ((IntKind.u64.wrap a1).tmod 50).toNat w (by omega) (by omega) (by omega) (by omega)

end Go.Proofs.Ytmlobpapjfkbmaa
