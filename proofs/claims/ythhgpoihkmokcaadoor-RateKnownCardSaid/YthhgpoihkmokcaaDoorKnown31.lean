/- RateKnown. -/
import Derived.Test.YthhgpoihkmokcaaDoorNumbers31
import Derived.IntWalk
namespace Go.Proofs.YthhgpoihkmokcaaDoor
open Go.RowKit Ieee
set_option linter.unusedVariables false
set_option linter.unusedSimpArgs false

/-- A number's text, its digits told. -/
theorem text_num {W w : World} (hT : Lib.TabIs Tryd.prog W "internal/strconv.uint64pow10" .u64 Lib.pow10Tab) (k : Ex W w) (x m : Nat) (l : List UInt8) (hm : numT (pW x) = (m : Int)) (hl : Lib.decDigits m = l) (hs : kv (pW x) < kv c50) (hx : rg x < 9218868437227405312)
    (r : ByteArray) (hr : textL x ⟨l.toArray⟩ = r) : Calls Tryd.prog 19 #[.float .f64 x] w fun e w' => e = .returned (.string r) ∧ Ex w w' := by
  have e : numL x = ⟨l.toArray⟩ := by
    unfold numL
    rw [if_pos ⟨hs, hx⟩, hm]
    unfold Lib.itoa
    rw [if_neg (by omega), Int.toNat_natCast, hl]
  exact text_any w x (numL x) (numL_size x) r (by rw [e]; exact hr) (numL_fmt hT k x)
theorem dec_big {u : Nat} (h : ¬ u < 10) : Lib.decDigits u = Lib.decDigits (u / 10) ++ [UInt8.ofNat (48 + u % 10)] := by
  rw [Lib.decDigits, dif_neg h]
theorem dec_one {u : Nat} (h : u < 10) : Lib.decDigits u = [UInt8.ofNat (48 + u)] := by
  rw [Lib.decDigits, dif_pos h]

theorem dg_0 : Lib.decDigits 0 = [48] := by rw [dec_one (by omega)]; rfl
theorem dg_1 : Lib.decDigits 1 = [49] := by rw [dec_one (by omega)]; rfl
theorem dg_99 : Lib.decDigits 99 = [57, 57] := by rw [dec_big (by omega), dec_one (by omega)]; rfl
theorem dg_100 : Lib.decDigits 100 = [49, 48, 48] := by rw [dec_big (by omega), dec_big (by omega), dec_one (by omega)]; rfl
theorem dg_1235 : Lib.decDigits 1235 = [49, 50, 51, 53] := by rw [dec_big (by omega), dec_big (by omega), dec_big (by omega), dec_one (by omega)]; rfl
theorem dg_15 : Lib.decDigits 1000000000000000 = [49, 48, 48, 48, 48, 48, 48, 48, 48, 48, 48, 48, 48, 48, 48, 48] := by
  rw [dec_big (by omega), dec_big (by omega), dec_big (by omega), dec_big (by omega), dec_big (by omega), dec_big (by omega), dec_big (by omega), dec_big (by omega), dec_big (by omega), dec_big (by omega), dec_big (by omega), dec_big (by omega), dec_big (by omega), dec_big (by omega), dec_big (by omega), dec_one (by omega)]; rfl

theorem tx_0 {W w : World} (hT : Lib.TabIs Tryd.prog W "internal/strconv.uint64pow10" .u64 Lib.pow10Tab) (k : Ex W w) : Calls Tryd.prog 19 #[.float .f64 0] w fun e w' => e = .returned (.string ⟨#[48, 37]⟩) ∧ Ex w w' :=
  text_num hT k 0 0 _ (by decide +kernel) dg_0 (by decide +kernel) (by decide) _ (by decide +kernel)
theorem tx_1 {W w : World} (hT : Lib.TabIs Tryd.prog W "internal/strconv.uint64pow10" .u64 Lib.pow10Tab) (k : Ex W w) : Calls Tryd.prog 19 #[.float .f64 9223372036854775808] w fun e w' => e = .returned (.string ⟨#[45, 48, 37]⟩) ∧ Ex w w' :=
  text_num hT k 9223372036854775808 0 _ (by decide +kernel) dg_0 (by decide +kernel) (by decide) _ (by decide +kernel)
theorem tx_2 {W w : World} (hT : Lib.TabIs Tryd.prog W "internal/strconv.uint64pow10" .u64 Lib.pow10Tab) (k : Ex W w) : Calls Tryd.prog 19 #[.float .f64 4607182418800017408] w fun e w' => e = .returned (.string ⟨#[49, 48, 48, 37]⟩) ∧ Ex w w' :=
  text_num hT k 4607182418800017408 100 _ (by decide +kernel) dg_100 (by decide +kernel) (by decide) _ (by decide +kernel)
theorem tx_3 {W w : World} (hT : Lib.TabIs Tryd.prog W "internal/strconv.uint64pow10" .u64 Lib.pow10Tab) (k : Ex W w) : Calls Tryd.prog 19 #[.float .f64 13830554455654793216] w fun e w' => e = .returned (.string ⟨#[45, 49, 48, 48, 37]⟩) ∧ Ex w w' :=
  text_num hT k 13830554455654793216 100 _ (by decide +kernel) dg_100 (by decide +kernel) (by decide) _ (by decide +kernel)
theorem tx_4 {W w : World} (hT : Lib.TabIs Tryd.prog W "internal/strconv.uint64pow10" .u64 Lib.pow10Tab) (k : Ex W w) : Calls Tryd.prog 19 #[.float .f64 4572414629676717179] w fun e w' => e = .returned (.string ⟨#[49, 37]⟩) ∧ Ex w w' :=
  text_num hT k 4572414629676717179 1 _ (by decide +kernel) dg_1 (by decide +kernel) (by decide) _ (by decide +kernel)
theorem tx_5 {W w : World} (hT : Lib.TabIs Tryd.prog W "internal/strconv.uint64pow10" .u64 Lib.pow10Tab) (k : Ex W w) : Calls Tryd.prog 19 #[.float .f64 4572299337526256494] w fun e w' => e = .returned (.string ⟨#[48, 37]⟩) ∧ Ex w w' :=
  text_num hT k 4572299337526256494 0 _ (by decide +kernel) dg_0 (by decide +kernel) (by decide) _ (by decide +kernel)
theorem tx_6 {W w : World} (hT : Lib.TabIs Tryd.prog W "internal/strconv.uint64pow10" .u64 Lib.pow10Tab) (k : Ex W w) : Calls Tryd.prog 19 #[.float .f64 4607128375604488962] w fun e w' => e = .returned (.string ⟨#[57, 57, 37]⟩) ∧ Ex w w' :=
  text_num hT k 4607128375604488962 99 _ (by decide +kernel) dg_99 (by decide +kernel) (by decide) _ (by decide +kernel)
theorem tx_7 {W w : World} (hT : Lib.TabIs Tryd.prog W "internal/strconv.uint64pow10" .u64 Lib.pow10Tab) (k : Ex W w) : Calls Tryd.prog 19 #[.float .f64 4607137382803743703] w fun e w' => e = .returned (.string ⟨#[49, 48, 48, 37]⟩) ∧ Ex w w' :=
  text_num hT k 4607137382803743703 100 _ (by decide +kernel) dg_100 (by decide +kernel) (by decide) _ (by decide +kernel)
theorem tx_8 {W w : World} (hT : Lib.TabIs Tryd.prog W "internal/strconv.uint64pow10" .u64 Lib.pow10Tab) (k : Ex W w) : Calls Tryd.prog 19 #[.float .f64 4623139235229744497] w fun e w' => e = .returned (.string ⟨#[49, 50, 51, 53, 37]⟩) ∧ Ex w w' :=
  text_num hT k 4623139235229744497 1235 _ (by decide +kernel) dg_1235 (by decide +kernel) (by decide) _ (by decide +kernel)
theorem tx_9 {W w : World} (hT : Lib.TabIs Tryd.prog W "internal/strconv.uint64pow10" .u64 Lib.pow10Tab) (k : Ex W w) : Calls Tryd.prog 19 #[.float .f64 9218868437227405312] w fun e w' => e = .returned (.string ⟨#[43, 73, 110, 102]⟩) ∧ Ex w w' :=
  text_any w 9218868437227405312 ⟨#[]⟩ (by decide) _ (by decide +kernel) (fun _ _ h => absurd h (by decide +kernel))
theorem tx_10 {W w : World} (hT : Lib.TabIs Tryd.prog W "internal/strconv.uint64pow10" .u64 Lib.pow10Tab) (k : Ex W w) : Calls Tryd.prog 19 #[.float .f64 18442240474082181120] w fun e w' => e = .returned (.string ⟨#[45, 73, 110, 102]⟩) ∧ Ex w w' :=
  text_any w 18442240474082181120 ⟨#[]⟩ (by decide) _ (by decide +kernel) (fun _ _ h => absurd h (by decide +kernel))
theorem tx_12 {W w : World} (hT : Lib.TabIs Tryd.prog W "internal/strconv.uint64pow10" .u64 Lib.pow10Tab) (k : Ex W w) : Calls Tryd.prog 19 #[.float .f64 9094988921128908188] w fun e w' => e = .returned (.string ⟨#[43, 66, 105, 103]⟩) ∧ Ex w w' :=
  text_any w 9094988921128908188 ⟨#[]⟩ (by decide) _ (by decide +kernel) (fun _ _ h => absurd h (by decide +kernel))
theorem tx_13 {W w : World} (hT : Lib.TabIs Tryd.prog W "internal/strconv.uint64pow10" .u64 Lib.pow10Tab) (k : Ex W w) : Calls Tryd.prog 19 #[.float .f64 18318360957983683996] w fun e w' => e = .returned (.string ⟨#[45, 66, 105, 103]⟩) ∧ Ex w w' :=
  text_any w 18318360957983683996 ⟨#[]⟩ (by decide) _ (by decide +kernel) (fun _ _ h => absurd h (by decide +kernel))
theorem tx_14 {W w : World} (hT : Lib.TabIs Tryd.prog W "internal/strconv.uint64pow10" .u64 Lib.pow10Tab) (k : Ex W w) : Calls Tryd.prog 19 #[.float .f64 4801453603149578240] w fun e w' => e = .returned (.string ⟨#[49, 48, 48, 48, 48, 48, 48, 48, 48, 48, 48, 48, 48, 48, 48, 48, 37]⟩) ∧ Ex w w' :=
  text_num hT k 4801453603149578240 1000000000000000 _ (by decide +kernel) dg_15 (by decide +kernel) (by decide) _ (by decide +kernel)
theorem tx_11 (w : World) (x : Nat) (hx : nanB x = true) : Calls Tryd.prog 19 #[.float .f64 x] w fun e w' => e = .returned (.string ⟨#[78, 97, 78]⟩) ∧ Ex w w' :=
  text_any w x ⟨#[]⟩ (by decide) _ (by unfold textL; rw [if_pos hx]) (fun h _ _ => by rw [hx] at h; cases h)

set_option maxHeartbeats 1600000 in
theorem digits_0 (w : World) : Calls Tryd.prog 26 #[.int .i64 0] w fun e w' => e = .returned (.string ⟨#[48]⟩) ∧ w = w' := by
  go_enter Tryd.func26, Tryd.ntmps26
  go_wp2_with fail
  refine wp_loop_rounds 1 ?_; rw [rounds_succ]
  go_wp2_with fail
  go_ret
  exact ⟨by first | rfl | decide, rfl⟩
set_option maxHeartbeats 1600000 in
theorem digits_1 (w : World) : Calls Tryd.prog 26 #[.int .i64 1] w fun e w' => e = .returned (.string ⟨#[49]⟩) ∧ w = w' := by
  go_enter Tryd.func26, Tryd.ntmps26
  go_wp2_with fail
  refine wp_loop_rounds 1 ?_; rw [rounds_succ]
  go_wp2_with fail
  go_ret
  exact ⟨by first | rfl | decide, rfl⟩
set_option maxHeartbeats 1600000 in
theorem digits_99 (w : World) : Calls Tryd.prog 26 #[.int .i64 99] w fun e w' => e = .returned (.string ⟨#[57, 57]⟩) ∧ w = w' := by
  go_enter Tryd.func26, Tryd.ntmps26
  go_wp2_with fail
  refine wp_loop_rounds 2 ?_; rw [rounds_succ]
  go_wp2_with fail
  rw [rounds_succ]
  go_wp2_with fail
  go_ret
  exact ⟨by first | rfl | decide, rfl⟩
set_option maxHeartbeats 1600000 in
theorem digits_100 (w : World) : Calls Tryd.prog 26 #[.int .i64 100] w fun e w' => e = .returned (.string ⟨#[49, 48, 48]⟩) ∧ w = w' := by
  go_enter Tryd.func26, Tryd.ntmps26
  go_wp2_with fail
  refine wp_loop_rounds 3 ?_; rw [rounds_succ]
  go_wp2_with fail
  rw [rounds_succ]
  go_wp2_with fail
  rw [rounds_succ]
  go_wp2_with fail
  go_ret
  exact ⟨by first | rfl | decide, rfl⟩
set_option maxHeartbeats 1600000 in
theorem digits_1235 (w : World) : Calls Tryd.prog 26 #[.int .i64 1235] w fun e w' => e = .returned (.string ⟨#[49, 50, 51, 53]⟩) ∧ w = w' := by
  go_enter Tryd.func26, Tryd.ntmps26
  go_wp2_with fail
  refine wp_loop_rounds 4 ?_; rw [rounds_succ]
  go_wp2_with fail
  rw [rounds_succ]
  go_wp2_with fail
  rw [rounds_succ]
  go_wp2_with fail
  rw [rounds_succ]
  go_wp2_with fail
  go_ret
  exact ⟨by first | rfl | decide, rfl⟩

theorem km_4 : floatBits .mul .f64 4572414629676717179 4636737291354636288 = some 4602678819172646912 := by decide +kernel
theorem kc_4 : floatToIntVal .f64 4602678819172646912 .i64 = some 0 := by decide +kernel
theorem kf_4 : floatOfInt .f64 0 = 0 := by decide +kernel
theorem ks_4 : floatBits .sub .f64 4602678819172646912 0 = some 4602678819172646912 := by decide +kernel
theorem ko_4 : FloatKind.f64.format.order 4602678819172646912 4602678819172646912 = some .eq := by decide +kernel
theorem km_5 : floatBits .mul .f64 4572299337526256494 4636737291354636288 = some 4602498675187552092 := by decide +kernel
theorem kc_5 : floatToIntVal .f64 4602498675187552092 .i64 = some 0 := by decide +kernel
theorem kf_5 : floatOfInt .f64 0 = 0 := by decide +kernel
theorem ks_5 : floatBits .sub .f64 4602498675187552092 0 = some 4602498675187552092 := by decide +kernel
theorem ko_5 : FloatKind.f64.format.order 4602498675187552092 4602678819172646912 = some .lt := by decide +kernel
theorem km_6 : floatBits .mul .f64 4607128375604488962 4636737291354636288 = some 4636695070108129690 := by decide +kernel
theorem kc_6 : floatToIntVal .f64 4636695070108129690 .i64 = some 99 := by decide +kernel
theorem kf_6 : floatOfInt .f64 99 = 4636666922610458624 := by decide +kernel
theorem ks_6 : floatBits .sub .f64 4636695070108129690 4636666922610458624 = some 4600877379321698816 := by decide +kernel
theorem ko_6 : FloatKind.f64.format.order 4600877379321698816 4602678819172646912 = some .lt := by decide +kernel
theorem km_7 : floatBits .mul .f64 4607137382803743703 4636737291354636288 = some 4636702106982547456 := by decide +kernel
theorem kc_7 : floatToIntVal .f64 4636702106982547456 .i64 = some 99 := by decide +kernel
theorem kf_7 : floatOfInt .f64 99 = 4636666922610458624 := by decide +kernel
theorem ks_7 : floatBits .sub .f64 4636702106982547456 4636666922610458624 = some 4602678819172646912 := by decide +kernel
theorem ko_7 : FloatKind.f64.format.order 4602678819172646912 4602678819172646912 = some .eq := by decide +kernel
theorem km_8 : floatBits .mul .f64 4623139235229744497 4636737291354636288 = some 4653144203864309760 := by decide +kernel
theorem kc_8 : floatToIntVal .f64 4653144203864309760 .i64 = some 1234 := by decide +kernel
theorem kf_8 : floatOfInt .f64 1234 = 4653142004841054208 := by decide +kernel
theorem ks_8 : floatBits .sub .f64 4653144203864309760 4653142004841054208 = some 4602678819172646912 := by decide +kernel
theorem ko_8 : FloatKind.f64.format.order 4602678819172646912 4602678819172646912 = some .eq := by decide +kernel

theorem idx_15 (k : Int) : ∃ n : Nat, n < 15 ∧ ((k.tmod 15) + 15).tmod 15 = (n : Int) := by
  have h1 := Int.tmod_lt_of_pos k (b := 15) (by omega)
  have h2 := Int.lt_tmod_of_pos k (b := 15) (by omega)
  have h3 := Int.tmod_nonneg (a := k.tmod 15 + 15) 15 (by omega)
  have h4 := Int.tmod_lt_of_pos (k.tmod 15 + 15) (b := 15) (by omega)
  exact ⟨((k.tmod 15 + 15).tmod 15).toNat, by omega, by omega⟩
theorem neg0 (w : World) : (Op.unary .neg (.float .f64 0)).run Tryd.prog w = .ok (.float .f64 9223372036854775808) w := by kernel_rfl
theorem negi (w : World) : (Op.unary .neg (.float .f64 9218868437227405312)).run Tryd.prog w = .ok (.float .f64 18442240474082181120) w := by kernel_rfl
theorem quo10 : floatBits .quo .f64 4607182418800017408 0 = some 9218868437227405312 := by decide +kernel
theorem quom1 : floatBits .quo .f64 13830554455654793216 9218868437227405312 = some 9223372036854775808 := by decide +kernel

set_option maxRecDepth 20000 in
set_option maxHeartbeats 25600000 in
theorem walk_RateKnown (k : Int) (w : World) (hT : Lib.TabIs Tryd.prog w "internal/strconv.uint64pow10" .u64 Lib.pow10Tab) :
    Calls Tryd.prog 7 #[.int .i64 k] w fun e w' => e = .returned (.bool true) ∧ Ex w w' := by
  obtain ⟨n, hn, hk⟩ := idx_15 k
  have HT := Lib.hid hT
  have kb1 := Int.tmod_lt_of_pos k (b := 15) (by omega)
  have kb2 := Int.lt_tmod_of_pos k (b := 15) (by omega)
  obtain ⟨K, hK⟩ : ∃ K, k.tmod 15 = K := ⟨_, rfl⟩
  rw [hK] at hk kb1 kb2
  have rq := fun (w : World) => run_float_arith (P := Tryd.prog) w .quo 23 .f64 4607182418800017408 0 _ quo10
  have n0 := neg0
  have ni := negi
  obtain ⟨r, w1, h1, h2, h3⟩ := sub_inf w (x := 9218868437227405312) (by decide)
  have HR := Lib.hid h2
  have E1 := Lib.hid h3
  clear h2 h3 hT
  go_enter Tryd.func7, Tryd.ntmps7
  go_wp2_with fail
  refine (zero_any w).mono ?_
  rintro e w' ⟨rfl, rfl⟩
  go_wp2_with fail
  refine (zero_any w).mono ?_
  rintro e w' ⟨rfl, rfl⟩
  go_upto_region 4 with fail
  have hx0 := Ex.made w1 (.cells #[.float .f64 0, .float .f64 9223372036854775808, .float .f64 4607182418800017408, .float .f64 13830554455654793216, .float .f64 4572414629676717179, .float .f64 4572299337526256494, .float .f64 4607128375604488962, .float .f64 4607137382803743703, .float .f64 4623139235229744497, .float .f64 9218868437227405312, .float .f64 18442240474082181120, .float .f64 r, .float .f64 9094988921128908188, .float .f64 18318360957983683996, .float .f64 4801453603149578240] 23)
  have hx1 := Ex.made (w1.alloc (.cells #[.float .f64 0, .float .f64 9223372036854775808, .float .f64 4607182418800017408, .float .f64 13830554455654793216, .float .f64 4572414629676717179, .float .f64 4572299337526256494, .float .f64 4607128375604488962, .float .f64 4607137382803743703, .float .f64 4623139235229744497, .float .f64 9218868437227405312, .float .f64 18442240474082181120, .float .f64 r, .float .f64 9094988921128908188, .float .f64 18318360957983683996, .float .f64 4801453603149578240] 23)) (.cells #[.string ⟨#[48, 37]⟩, .string ⟨#[48, 37]⟩, .string ⟨#[49, 48, 48, 37]⟩, .string ⟨#[45, 49, 48, 48, 37]⟩, .string ⟨#[49, 37]⟩, .string ⟨#[48, 37]⟩, .string ⟨#[57, 57, 37]⟩, .string ⟨#[49, 48, 48, 37]⟩, .string ⟨#[49, 50, 51, 53, 37]⟩, .string ⟨#[43, 73, 110, 102]⟩, .string ⟨#[45, 73, 110, 102]⟩, .string ⟨#[78, 97, 78]⟩, .string ⟨#[43, 66, 105, 103]⟩, .string ⟨#[45, 66, 105, 103]⟩, .string ⟨#[49, 48, 48, 48, 48, 48, 48, 48, 48, 48, 48, 48, 48, 48, 48, 48, 37]⟩] 9)
  have hf := (Box.fresh w1 #[.float .f64 0, .float .f64 9223372036854775808, .float .f64 4607182418800017408, .float .f64 13830554455654793216, .float .f64 4572414629676717179, .float .f64 4572299337526256494, .float .f64 4607128375604488962, .float .f64 4607137382803743703, .float .f64 4623139235229744497, .float .f64 9218868437227405312, .float .f64 18442240474082181120, .float .f64 r, .float .f64 9094988921128908188, .float .f64 18318360957983683996, .float .f64 4801453603149578240] 23).ex hx1
  have hs := Box.fresh (w1.alloc (.cells #[.float .f64 0, .float .f64 9223372036854775808, .float .f64 4607182418800017408, .float .f64 13830554455654793216, .float .f64 4572414629676717179, .float .f64 4572299337526256494, .float .f64 4607128375604488962, .float .f64 4607137382803743703, .float .f64 4623139235229744497, .float .f64 9218868437227405312, .float .f64 18442240474082181120, .float .f64 r, .float .f64 9094988921128908188, .float .f64 18318360957983683996, .float .f64 4801453603149578240] 23)) #[.string ⟨#[48, 37]⟩, .string ⟨#[48, 37]⟩, .string ⟨#[49, 48, 48, 37]⟩, .string ⟨#[45, 49, 48, 48, 37]⟩, .string ⟨#[49, 37]⟩, .string ⟨#[48, 37]⟩, .string ⟨#[57, 57, 37]⟩, .string ⟨#[49, 48, 48, 37]⟩, .string ⟨#[49, 50, 51, 53, 37]⟩, .string ⟨#[43, 73, 110, 102]⟩, .string ⟨#[45, 73, 110, 102]⟩, .string ⟨#[78, 97, 78]⟩, .string ⟨#[43, 66, 105, 103]⟩, .string ⟨#[45, 66, 105, 103]⟩, .string ⟨#[49, 48, 48, 48, 48, 48, 48, 48, 48, 48, 48, 48, 48, 48, 48, 48, 37]⟩] 9
  have hsz : (w1.alloc (.cells #[.float .f64 0, .float .f64 9223372036854775808, .float .f64 4607182418800017408, .float .f64 13830554455654793216, .float .f64 4572414629676717179, .float .f64 4572299337526256494, .float .f64 4607128375604488962, .float .f64 4607137382803743703, .float .f64 4623139235229744497, .float .f64 9218868437227405312, .float .f64 18442240474082181120, .float .f64 r, .float .f64 9094988921128908188, .float .f64 18318360957983683996, .float .f64 4801453603149578240] 23)).heap.size = w1.heap.size + 1 := by simp
  rw [hsz] at hs
  obtain ⟨fb, hfb⟩ : ∃ b, w1.heap.size = b := ⟨_, rfl⟩
  rw [hfb] at hf hs ⊢
  obtain ⟨sb, hsb⟩ : ∃ b, fb + 1 = b := ⟨_, rfl⟩
  rw [hsb] at hs ⊢
  have hx := hx0.trans hx1
  obtain ⟨V, hV⟩ : ∃ W, W = (w1.alloc (.cells #[.float .f64 0, .float .f64 9223372036854775808, .float .f64 4607182418800017408, .float .f64 13830554455654793216, .float .f64 4572414629676717179, .float .f64 4572299337526256494, .float .f64 4607128375604488962, .float .f64 4607137382803743703, .float .f64 4623139235229744497, .float .f64 9218868437227405312, .float .f64 18442240474082181120, .float .f64 r, .float .f64 9094988921128908188, .float .f64 18318360957983683996, .float .f64 4801453603149578240] 23)).alloc (.cells #[.string ⟨#[48, 37]⟩, .string ⟨#[48, 37]⟩, .string ⟨#[49, 48, 48, 37]⟩, .string ⟨#[45, 49, 48, 48, 37]⟩, .string ⟨#[49, 37]⟩, .string ⟨#[48, 37]⟩, .string ⟨#[57, 57, 37]⟩, .string ⟨#[49, 48, 48, 37]⟩, .string ⟨#[49, 50, 51, 53, 37]⟩, .string ⟨#[43, 73, 110, 102]⟩, .string ⟨#[45, 73, 110, 102]⟩, .string ⟨#[78, 97, 78]⟩, .string ⟨#[43, 66, 105, 103]⟩, .string ⟨#[45, 66, 105, 103]⟩, .string ⟨#[49, 48, 48, 48, 48, 48, 48, 48, 48, 48, 48, 48, 48, 48, 48, 48, 37]⟩] 9) := ⟨_, rfl⟩
  rw [← hV] at hx hf hs ⊢
  have EV := Lib.hid (E1.out.trans hx)
  have FB := Lib.hid hf
  have SB := Lib.hid hs
  clear hV hx hx0 hx1 hf hs hsz hfb hsb h1 n0 ni
  rcases (by omega : n = 0 ∨ n = 1 ∨ n = 2 ∨ n = 3 ∨ n = 4 ∨ n = 5 ∨ n = 6 ∨ n = 7 ∨ n = 8 ∨ n = 9 ∨ n = 10 ∨ n = 11 ∨ n = 12 ∨ n = 13 ∨ n = 14) with rfl | rfl | rfl | rfl | rfl | rfl | rfl | rfl | rfl | rfl | rfl | rfl | rfl | rfl | rfl
  · replace hk : (K + 15).tmod 15 = 0 := hk
    have cF : V.cell? ⟨fb, 0, none⟩ = some (.float .f64 0) := FB.out.cell 0
    have TX := Lib.hid (fun o : Out V => tx_0 HT.out (EV.out.trans o.2))
    have zs : ∀ o : Out V, o.w.cell? ⟨sb, 0, none⟩ = some (.string ⟨#[48, 37]⟩) := fun o => (SB.out.ex o.2).cell 0
    go_upto_region 15 with fail
    refine wp_region_ex (by kernel_rfl) (by kernel_rfl) ?_
    repeat (go_big_quiet_step (first | (go_at_call 11; with_reducible exact quiet_ex (told_any _)) | (go_at_call 19; with_reducible exact quiet_ex (TX.out _))))
    refine wpQuiet_nil ?_
    rintro w4 ⟨wz, rfl⟩
    have hex : Ex V wz.w := wz.2
    go_wp2
    go_ret
    exact ⟨by first | rfl | decide, EV.out.trans hex⟩
  · replace hk : (K + 15).tmod 15 = 1 := hk
    have cF : V.cell? ⟨fb, 1, none⟩ = some (.float .f64 9223372036854775808) := FB.out.cell 1
    have rm := fun (w : World) => run_float_arith (P := Tryd.prog) w .quo 23 .f64 13830554455654793216 9218868437227405312 _ quom1
    go_wp2_with fail
    refine (told_any V).mono ?_
    rintro e w5 ⟨rfl, hx⟩
    have E5 := Lib.hid (EV.out.trans hx)
    clear hx
    go_wp2_with fail
    refine (tx_1 HT.out E5.out).mono ?_
    rintro e w6 ⟨rfl, hx⟩
    have E6 := Lib.hid (E5.out.trans hx)
    clear hx
    go_wp2_with fail
    go_ret
    exact ⟨rfl, E6.out⟩
  · replace hk : (K + 15).tmod 15 = 2 := hk
    have cF : V.cell? ⟨fb, 2, none⟩ = some (.float .f64 4607182418800017408) := FB.out.cell 2
    have TX := Lib.hid (fun o : Out V => tx_2 HT.out (EV.out.trans o.2))
    have zs : ∀ o : Out V, o.w.cell? ⟨sb, 2, none⟩ = some (.string ⟨#[49, 48, 48, 37]⟩) := fun o => (SB.out.ex o.2).cell 2
    go_upto_region 15 with fail
    refine wp_region_ex (by kernel_rfl) (by kernel_rfl) ?_
    repeat (go_big_quiet_step (first | (go_at_call 11; with_reducible exact quiet_ex (told_any _)) | (go_at_call 19; with_reducible exact quiet_ex (TX.out _))))
    refine wpQuiet_nil ?_
    rintro w4 ⟨wz, rfl⟩
    have hex : Ex V wz.w := wz.2
    go_wp2
    go_ret
    exact ⟨by first | rfl | decide, EV.out.trans hex⟩
  · replace hk : (K + 15).tmod 15 = 3 := hk
    have cF : V.cell? ⟨fb, 3, none⟩ = some (.float .f64 13830554455654793216) := FB.out.cell 3
    have TX := Lib.hid (fun o : Out V => tx_3 HT.out (EV.out.trans o.2))
    have zs : ∀ o : Out V, o.w.cell? ⟨sb, 3, none⟩ = some (.string ⟨#[45, 49, 48, 48, 37]⟩) := fun o => (SB.out.ex o.2).cell 3
    go_upto_region 15 with fail
    refine wp_region_ex (by kernel_rfl) (by kernel_rfl) ?_
    repeat (go_big_quiet_step (first | (go_at_call 11; with_reducible exact quiet_ex (told_any _)) | (go_at_call 19; with_reducible exact quiet_ex (TX.out _))))
    refine wpQuiet_nil ?_
    rintro w4 ⟨wz, rfl⟩
    have hex : Ex V wz.w := wz.2
    go_wp2
    go_ret
    exact ⟨by first | rfl | decide, EV.out.trans hex⟩
  · replace hk : (K + 15).tmod 15 = 4 := hk
    have cF : V.cell? ⟨fb, 4, none⟩ = some (.float .f64 4572414629676717179) := FB.out.cell 4
    have r1 := fun (w : World) => run_float_arith (P := Tryd.prog) w .mul 23 .f64 4572414629676717179 4636737291354636288 _ km_4
    have r2 := fun w => run_convert_float_int (P := Tryd.prog) w 23 3 .f64 .i64 4602678819172646912 _ (by kernel_rfl) Tryd.underlying3 kc_4
    have r3 := kf_4
    have r4 := fun (w : World) => run_float_arith (P := Tryd.prog) w .sub 23 .f64 4602678819172646912 0 _ ks_4
    have r5 := ko_4
    go_wp2_with fail
    refine (told_any V).mono ?_
    rintro e w5 ⟨rfl, hx⟩
    have E5 := Lib.hid (EV.out.trans hx)
    clear hx
    go_wp2_with fail
    refine (tx_4 HT.out E5.out).mono ?_
    rintro e w6 ⟨rfl, hx⟩
    have E6 := Lib.hid (E5.out.trans hx)
    clear hx
    go_wp2_with fail
    refine (digits_1 w6).mono ?_
    rintro e w' ⟨rfl, rfl⟩
    have r6 : ((⟨#[49]⟩ : ByteArray) ++ ⟨#[37]⟩) = ⟨#[49, 37]⟩ := by rfl
    go_wp2_with fail
    go_ret
    exact ⟨by first | rfl | decide, E6.out⟩
  · replace hk : (K + 15).tmod 15 = 5 := hk
    have cF : V.cell? ⟨fb, 5, none⟩ = some (.float .f64 4572299337526256494) := FB.out.cell 5
    have r1 := fun (w : World) => run_float_arith (P := Tryd.prog) w .mul 23 .f64 4572299337526256494 4636737291354636288 _ km_5
    have r2 := fun w => run_convert_float_int (P := Tryd.prog) w 23 3 .f64 .i64 4602498675187552092 _ (by kernel_rfl) Tryd.underlying3 kc_5
    have r3 := kf_5
    have r4 := fun (w : World) => run_float_arith (P := Tryd.prog) w .sub 23 .f64 4602498675187552092 0 _ ks_5
    have r5 := ko_5
    go_wp2_with fail
    refine (told_any V).mono ?_
    rintro e w5 ⟨rfl, hx⟩
    have E5 := Lib.hid (EV.out.trans hx)
    clear hx
    go_wp2_with fail
    refine (tx_5 HT.out E5.out).mono ?_
    rintro e w6 ⟨rfl, hx⟩
    have E6 := Lib.hid (E5.out.trans hx)
    clear hx
    go_wp2_with fail
    refine (digits_0 w6).mono ?_
    rintro e w' ⟨rfl, rfl⟩
    have r6 : ((⟨#[48]⟩ : ByteArray) ++ ⟨#[37]⟩) = ⟨#[48, 37]⟩ := by rfl
    go_wp2_with fail
    go_ret
    exact ⟨by first | rfl | decide, E6.out⟩
  · replace hk : (K + 15).tmod 15 = 6 := hk
    have cF : V.cell? ⟨fb, 6, none⟩ = some (.float .f64 4607128375604488962) := FB.out.cell 6
    have r1 := fun (w : World) => run_float_arith (P := Tryd.prog) w .mul 23 .f64 4607128375604488962 4636737291354636288 _ km_6
    have r2 := fun w => run_convert_float_int (P := Tryd.prog) w 23 3 .f64 .i64 4636695070108129690 _ (by kernel_rfl) Tryd.underlying3 kc_6
    have r3 := kf_6
    have r4 := fun (w : World) => run_float_arith (P := Tryd.prog) w .sub 23 .f64 4636695070108129690 4636666922610458624 _ ks_6
    have r5 := ko_6
    go_wp2_with fail
    refine (told_any V).mono ?_
    rintro e w5 ⟨rfl, hx⟩
    have E5 := Lib.hid (EV.out.trans hx)
    clear hx
    go_wp2_with fail
    refine (tx_6 HT.out E5.out).mono ?_
    rintro e w6 ⟨rfl, hx⟩
    have E6 := Lib.hid (E5.out.trans hx)
    clear hx
    go_wp2_with fail
    refine (digits_99 w6).mono ?_
    rintro e w' ⟨rfl, rfl⟩
    have r6 : ((⟨#[57, 57]⟩ : ByteArray) ++ ⟨#[37]⟩) = ⟨#[57, 57, 37]⟩ := by rfl
    go_wp2_with fail
    go_ret
    exact ⟨by first | rfl | decide, E6.out⟩
  · replace hk : (K + 15).tmod 15 = 7 := hk
    have cF : V.cell? ⟨fb, 7, none⟩ = some (.float .f64 4607137382803743703) := FB.out.cell 7
    have r1 := fun (w : World) => run_float_arith (P := Tryd.prog) w .mul 23 .f64 4607137382803743703 4636737291354636288 _ km_7
    have r2 := fun w => run_convert_float_int (P := Tryd.prog) w 23 3 .f64 .i64 4636702106982547456 _ (by kernel_rfl) Tryd.underlying3 kc_7
    have r3 := kf_7
    have r4 := fun (w : World) => run_float_arith (P := Tryd.prog) w .sub 23 .f64 4636702106982547456 4636666922610458624 _ ks_7
    have r5 := ko_7
    go_wp2_with fail
    refine (told_any V).mono ?_
    rintro e w5 ⟨rfl, hx⟩
    have E5 := Lib.hid (EV.out.trans hx)
    clear hx
    go_wp2_with fail
    refine (tx_7 HT.out E5.out).mono ?_
    rintro e w6 ⟨rfl, hx⟩
    have E6 := Lib.hid (E5.out.trans hx)
    clear hx
    go_wp2_with fail
    refine (digits_100 w6).mono ?_
    rintro e w' ⟨rfl, rfl⟩
    have r6 : ((⟨#[49, 48, 48]⟩ : ByteArray) ++ ⟨#[37]⟩) = ⟨#[49, 48, 48, 37]⟩ := by rfl
    go_wp2_with fail
    go_ret
    exact ⟨by first | rfl | decide, E6.out⟩
  · replace hk : (K + 15).tmod 15 = 8 := hk
    have cF : V.cell? ⟨fb, 8, none⟩ = some (.float .f64 4623139235229744497) := FB.out.cell 8
    have r1 := fun (w : World) => run_float_arith (P := Tryd.prog) w .mul 23 .f64 4623139235229744497 4636737291354636288 _ km_8
    have r2 := fun w => run_convert_float_int (P := Tryd.prog) w 23 3 .f64 .i64 4653144203864309760 _ (by kernel_rfl) Tryd.underlying3 kc_8
    have r3 := kf_8
    have r4 := fun (w : World) => run_float_arith (P := Tryd.prog) w .sub 23 .f64 4653144203864309760 4653142004841054208 _ ks_8
    have r5 := ko_8
    go_wp2_with fail
    refine (told_any V).mono ?_
    rintro e w5 ⟨rfl, hx⟩
    have E5 := Lib.hid (EV.out.trans hx)
    clear hx
    go_wp2_with fail
    refine (tx_8 HT.out E5.out).mono ?_
    rintro e w6 ⟨rfl, hx⟩
    have E6 := Lib.hid (E5.out.trans hx)
    clear hx
    go_wp2_with fail
    refine (digits_1235 w6).mono ?_
    rintro e w' ⟨rfl, rfl⟩
    have r6 : ((⟨#[49, 50, 51, 53]⟩ : ByteArray) ++ ⟨#[37]⟩) = ⟨#[49, 50, 51, 53, 37]⟩ := by rfl
    go_wp2_with fail
    go_ret
    exact ⟨by first | rfl | decide, E6.out⟩
  · replace hk : (K + 15).tmod 15 = 9 := hk
    have cF : V.cell? ⟨fb, 9, none⟩ = some (.float .f64 9218868437227405312) := FB.out.cell 9
    have TX := Lib.hid (fun o : Out V => tx_9 HT.out (EV.out.trans o.2))
    have zs : ∀ o : Out V, o.w.cell? ⟨sb, 9, none⟩ = some (.string ⟨#[43, 73, 110, 102]⟩) := fun o => (SB.out.ex o.2).cell 9
    go_upto_region 15 with fail
    refine wp_region_ex (by kernel_rfl) (by kernel_rfl) ?_
    repeat (go_big_quiet_step (first | (go_at_call 11; with_reducible exact quiet_ex (told_any _)) | (go_at_call 19; with_reducible exact quiet_ex (TX.out _))))
    refine wpQuiet_nil ?_
    rintro w4 ⟨wz, rfl⟩
    have hex : Ex V wz.w := wz.2
    go_wp2
    go_ret
    exact ⟨by first | rfl | decide, EV.out.trans hex⟩
  · replace hk : (K + 15).tmod 15 = 10 := hk
    have cF : V.cell? ⟨fb, 10, none⟩ = some (.float .f64 18442240474082181120) := FB.out.cell 10
    have TX := Lib.hid (fun o : Out V => tx_10 HT.out (EV.out.trans o.2))
    have zs : ∀ o : Out V, o.w.cell? ⟨sb, 10, none⟩ = some (.string ⟨#[45, 73, 110, 102]⟩) := fun o => (SB.out.ex o.2).cell 10
    go_upto_region 15 with fail
    refine wp_region_ex (by kernel_rfl) (by kernel_rfl) ?_
    repeat (go_big_quiet_step (first | (go_at_call 11; with_reducible exact quiet_ex (told_any _)) | (go_at_call 19; with_reducible exact quiet_ex (TX.out _))))
    refine wpQuiet_nil ?_
    rintro w4 ⟨wz, rfl⟩
    have hex : Ex V wz.w := wz.2
    go_wp2
    go_ret
    exact ⟨by first | rfl | decide, EV.out.trans hex⟩
  · replace hk : (K + 15).tmod 15 = 11 := hk
    have cF : V.cell? ⟨fb, 11, none⟩ = some (.float .f64 r) := FB.out.cell 11
    have TX := Lib.hid (fun o : Out V => tx_11 o.w r HR.out)
    have zs : ∀ o : Out V, o.w.cell? ⟨sb, 11, none⟩ = some (.string ⟨#[78, 97, 78]⟩) := fun o => (SB.out.ex o.2).cell 11
    go_upto_region 15 with fail
    refine wp_region_ex (by kernel_rfl) (by kernel_rfl) ?_
    repeat (go_big_quiet_step (first | (go_at_call 11; with_reducible exact quiet_ex (told_any _)) | (go_at_call 19; with_reducible exact quiet_ex (TX.out _))))
    refine wpQuiet_nil ?_
    rintro w4 ⟨wz, rfl⟩
    have hex : Ex V wz.w := wz.2
    go_wp2
    go_ret
    exact ⟨by first | rfl | decide, EV.out.trans hex⟩
  · replace hk : (K + 15).tmod 15 = 12 := hk
    have cF : V.cell? ⟨fb, 12, none⟩ = some (.float .f64 9094988921128908188) := FB.out.cell 12
    have TX := Lib.hid (fun o : Out V => tx_12 HT.out (EV.out.trans o.2))
    have zs : ∀ o : Out V, o.w.cell? ⟨sb, 12, none⟩ = some (.string ⟨#[43, 66, 105, 103]⟩) := fun o => (SB.out.ex o.2).cell 12
    go_upto_region 15 with fail
    refine wp_region_ex (by kernel_rfl) (by kernel_rfl) ?_
    repeat (go_big_quiet_step (first | (go_at_call 11; with_reducible exact quiet_ex (told_any _)) | (go_at_call 19; with_reducible exact quiet_ex (TX.out _))))
    refine wpQuiet_nil ?_
    rintro w4 ⟨wz, rfl⟩
    have hex : Ex V wz.w := wz.2
    go_wp2
    go_ret
    exact ⟨by first | rfl | decide, EV.out.trans hex⟩
  · replace hk : (K + 15).tmod 15 = 13 := hk
    have cF : V.cell? ⟨fb, 13, none⟩ = some (.float .f64 18318360957983683996) := FB.out.cell 13
    have TX := Lib.hid (fun o : Out V => tx_13 HT.out (EV.out.trans o.2))
    have zs : ∀ o : Out V, o.w.cell? ⟨sb, 13, none⟩ = some (.string ⟨#[45, 66, 105, 103]⟩) := fun o => (SB.out.ex o.2).cell 13
    go_upto_region 15 with fail
    refine wp_region_ex (by kernel_rfl) (by kernel_rfl) ?_
    repeat (go_big_quiet_step (first | (go_at_call 11; with_reducible exact quiet_ex (told_any _)) | (go_at_call 19; with_reducible exact quiet_ex (TX.out _))))
    refine wpQuiet_nil ?_
    rintro w4 ⟨wz, rfl⟩
    have hex : Ex V wz.w := wz.2
    go_wp2
    go_ret
    exact ⟨by first | rfl | decide, EV.out.trans hex⟩
  · replace hk : (K + 15).tmod 15 = 14 := hk
    have cF : V.cell? ⟨fb, 14, none⟩ = some (.float .f64 4801453603149578240) := FB.out.cell 14
    have TX := Lib.hid (fun o : Out V => tx_14 HT.out (EV.out.trans o.2))
    have zs : ∀ o : Out V, o.w.cell? ⟨sb, 14, none⟩ = some (.string ⟨#[49, 48, 48, 48, 48, 48, 48, 48, 48, 48, 48, 48, 48, 48, 48, 48, 37]⟩) := fun o => (SB.out.ex o.2).cell 14
    go_upto_region 15 with fail
    refine wp_region_ex (by kernel_rfl) (by kernel_rfl) ?_
    repeat (go_big_quiet_step (first | (go_at_call 11; with_reducible exact quiet_ex (told_any _)) | (go_at_call 19; with_reducible exact quiet_ex (TX.out _))))
    refine wpQuiet_nil ?_
    rintro w4 ⟨wz, rfl⟩
    have hex : Ex V wz.w := wz.2
    go_wp2
    go_ret
    exact ⟨by first | rfl | decide, EV.out.trans hex⟩

end Go.Proofs.YthhgpoihkmokcaaDoor
