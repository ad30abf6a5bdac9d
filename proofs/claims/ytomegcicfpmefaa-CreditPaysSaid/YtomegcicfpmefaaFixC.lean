/- math/bits.Div64: its contract. -/
import Derived.Test.YtomegcicfpmefaaFixB
import Derived.Deep.QuietTactic
import Derived.BigQuiet
import Derived.Deep.DeepCutAuto
import Derived.Deep.CutBlock
namespace Go.Proofs.Ytomegcicfpmefaa
open Go.RowKit
set_option linter.unusedVariables false

/-- The world after some draws. -/
def Dr (w w' : World) : Prop := ∃ n, w' = w.drewN n
theorem Dr.refl (w : World) : Dr w w := ⟨0, rfl⟩
theorem Dr.trans {a b c : World} (h : Dr a b) (k : Dr b c) : Dr a c := by
  obtain ⟨n, rfl⟩ := h
  obtain ⟨m, rfl⟩ := k
  exact ⟨n + m, World.drewN_drewN ..⟩

theorem bitLenAux_spec : ∀ (f x : Nat), x < 2 ^ f → x ≠ 0 → 1 ≤ Lib.bitLenAux f x ∧ Lib.bitLenAux f x ≤ f ∧ 2 ^ (Lib.bitLenAux f x - 1) ≤ x ∧ x < 2 ^ Lib.bitLenAux f x
  | 0, x, h, h0 => by simp at h; omega
  | f + 1, x, h, h0 => by
    simp only [Lib.bitLenAux, if_neg h0]
    by_cases h2 : x / 2 = 0
    · have hx : x = 1 := by omega
      subst hx
      have e : Lib.bitLenAux f (1 / 2) = 0 := by cases f <;> simp [Lib.bitLenAux]
      rw [e]
      simp
    · obtain ⟨i1, i2, i3, i4⟩ := bitLenAux_spec f (x / 2) (by rw [Nat.pow_succ] at h; omega) h2
      generalize Lib.bitLenAux f (x / 2) = k at *
      obtain ⟨j, rfl⟩ : ∃ j, k = j + 1 := ⟨k - 1, by omega⟩
      have e1 : 1 + (j + 1) - 1 = j + 1 := by omega
      have e2 : 1 + (j + 1) = j + 1 + 1 := by omega
      have e3 : j + 1 - 1 = j := by omega
      rw [e3] at i3
      rw [e1, e2]
      rw [Nat.pow_succ] at i4 ⊢
      rw [Nat.pow_succ, Nat.pow_succ]
      generalize 2 ^ j = P at *
      omega

/-- The normalized divisor. -/
theorem norm_spec (y : Nat) (h0 : 0 < y) (h1 : y < 18446744073709551616) :
    Lib.bitLen y ≤ 64 ∧ 9223372036854775808 ≤ y * 2 ^ (64 - Lib.bitLen y) ∧ y * 2 ^ (64 - Lib.bitLen y) < 18446744073709551616 := by
  obtain ⟨i1, i2, i3, i4⟩ := bitLenAux_spec 64 y h1 (by omega)
  unfold Lib.bitLen
  generalize Lib.bitLenAux 64 y = k at *
  have e1 : 2 ^ (k - 1) * 2 ^ (64 - k) = 9223372036854775808 := by rw [← Nat.pow_add, show k - 1 + (64 - k) = 63 by omega]
  have e2 : 2 ^ k * 2 ^ (64 - k) = 18446744073709551616 := by rw [← Nat.pow_add, show k + (64 - k) = 64 by omega]
  refine ⟨i2, ?_, ?_⟩
  · rw [← e1]; exact Nat.mul_le_mul_right _ i3
  · rw [← e2]; exact Nat.mul_lt_mul_of_pos_right i4 (Nat.two_pow_pos _)

theorem lz_any (y s : Nat) (w : World) (h1 : y < 18446744073709551616) (hs : s = 64 - Lib.bitLen y) :
    Calls Try.prog 27 #[.int .u64 y] w fun e w' => e = .returned (.int .i64 s) ∧ w = w' := by
  refine (Try.bits_LeadingZeros64 y w (by omega) (by omega)).mono ?_
  rintro e w' ⟨rfl, rfl⟩
  have h2 := Lib.bitLen_le y 64 (by omega) (by omega)
  refine ⟨congrArg Ending.returned (congrArg (Value.int IntKind.i64) ?_), rfl⟩
  rw [Int.toNat_natCast]
  omega

set_option maxHeartbeats 1000000 in
set_option maxRecDepth 100000 in
theorem div64_zero (lo y : Nat) (w : World) (hy : 0 < y) (hlo : lo < 18446744073709551616) (hy2 : y < 18446744073709551616) :
    Calls Try.prog 21 #[.int .u64 0, .int .u64 lo, .int .u64 y] w fun e w' => e = .returned (.tuple #[.int .u64 ((lo / y : Nat) : Int), .int .u64 ((lo % y : Nat) : Int)]) ∧ Dr w w' := by
  have y0 : ((y : Int) == 0) = false := by simp; omega
  go_enter Try.func21, Try.ntmps21
  go_wp2
  go_quiet (fail)
  go_wp2
  go_ret2
  refine ⟨congrArg Ending.returned ?_, ⟨_, rfl⟩⟩
  have e1 : IntKind.u64.wrap ((lo : Int) / (y : Int)) = ((lo / y : Nat) : Int) := by
    rw [← Int.natCast_ediv, IntKind.wrap_u64]
    have := Nat.div_le_self lo y
    generalize lo / y = q at *
    omega
  rw [Int.natCast_emod, ← e1]
  rfl


/-- What a trial digit comes to. -/
def Digit (d u u1 : Nat) (s15 : Value) : Prop := s15 = .int .u64 (((u * 4294967296 + u1) / d : Nat) : Int)

theorem digit_mk {d yn1 yn0 u u1 q : Nat} (hd : d = yn1 * 4294967296 + yn0) (h : q = (u * 4294967296 + u1) / (yn1 * 4294967296 + yn0)) : Digit d u u1 (.int .u64 (q : Int)) := by
  unfold Digit
  rw [hd, h]

set_option maxHeartbeats 1000000 in
set_option maxRecDepth 100000 in
theorem div64_walk (hi lo y s d yn1 yn0 uh ul u un10 un1 un0 q1 p1 r1 Q1 U q0 p0 r0 Q0 Q R : Nat) (w : World) (hh : 0 < hi) (hy : hi < y) (hy2 : y < 18446744073709551616) (hs : Hid (s = 64 - Lib.bitLen y)) (hs64 : s ≤ 64)
    (e1 : IntKind.u64.wrap ((y : Int) * 2 ^ s) = (d : Int)) (e2 : (d : Int) / 4294967296 = (yn1 : Int)) (e3 : bits .and .u64 (d : Int) 4294967295 = (yn0 : Int))
    (e4a : IntKind.u64.wrap ((hi : Int) * 2 ^ s) = (uh : Int)) (e4b : (lo : Int) / 2 ^ (64 - s) = (ul : Int)) (e4 : bits .or .u64 (uh : Int) (ul : Int) = (u : Int))
    (e5 : IntKind.u64.wrap ((lo : Int) * 2 ^ s) = (un10 : Int)) (e6 : (un10 : Int) / 4294967296 = (un1 : Int)) (e7 : bits .and .u64 (un10 : Int) 4294967295 = (un0 : Int))
    (e8 : IntKind.u64.wrap ((u : Int) / (yn1 : Int)) = (q1 : Int)) (e9 : IntKind.u64.wrap ((q1 : Int) * (yn1 : Int)) = (p1 : Int)) (e10 : IntKind.u64.wrap ((u : Int) - (p1 : Int)) = (r1 : Int))
    (hyn : 2147483648 ≤ yn1) (hyn2 : yn1 < 4294967296) (hyn0 : yn0 < 4294967296) (hd : Hid (d = yn1 * 4294967296 + yn0)) (hu1 : un1 < 4294967296) (hu : Hid (u < d)) (hk : KInv yn1 yn0 u un1 q1 r1) (hr1 : r1 < 4294967296)
    (hQ1 : Hid (Q1 = (u * 4294967296 + un1) / d)) (f1 : IntKind.u64.wrap (IntKind.u64.wrap (IntKind.u64.wrap ((u : Int) * 4294967296) + (un1 : Int)) - IntKind.u64.wrap ((Q1 : Int) * (d : Int))) = (U : Int))
    (f2 : IntKind.u64.wrap ((U : Int) / (yn1 : Int)) = (q0 : Int)) (f3 : IntKind.u64.wrap ((q0 : Int) * (yn1 : Int)) = (p0 : Int)) (f4 : IntKind.u64.wrap ((U : Int) - (p0 : Int)) = (r0 : Int)) (hu0 : un0 < 4294967296) (hU : Hid (U < d)) (hk0 : KInv yn1 yn0 U un0 q0 r0) (hr0 : r0 < 4294967296)
    (hQ0 : Hid (Q0 = (U * 4294967296 + un0) / d)) (f5 : IntKind.u64.wrap (IntKind.u64.wrap ((Q1 : Int) * 4294967296) + (Q0 : Int)) = (Q : Int))
    (f6 : IntKind.u64.wrap (IntKind.u64.wrap (IntKind.u64.wrap ((U : Int) * 4294967296) + (un0 : Int)) - IntKind.u64.wrap ((Q0 : Int) * (d : Int))) / 2 ^ s = (R : Int)) :
    Calls Try.prog 21 #[.int .u64 hi, .int .u64 lo, .int .u64 y] w fun e w' => e = .returned (.tuple #[.int .u64 (Q : Int), .int .u64 (R : Int)]) ∧ Dr w w' := by
  have y0 : ((y : Int) == 0) = false := by simp; omega
  have hi0 : ((hi : Int) == 0) = false := by simp; omega
  have y1 : ((yn1 : Int) == 0) = false := by simp; omega
  have y2 : ¬ y ≤ hi := by omega
  go_enter Try.func21, Try.ntmps21
  go_wp2_with fail
  refine (lz_any y s _ hy2 hs.out).mono ?_
  rintro e w' ⟨rfl, rfl⟩
  go_upto_block 0 with (fail)
  go_cut [15] (fun s15 wx => wx = w ∧ Digit d u un1 s15)
  case first =>
    go_wp2_with fail
    clear e1 e2 e3 e4a e4b e4 e5 e6 e7 e8 e9 e10 f1 f2 f3 f4 f5 f6
    go_loop [15, 16] (fun t r => ∃ q rh : Nat, KInv yn1 yn0 u un1 q rh ∧ rh < 4294967296 ∧ t = .int .u64 q ∧ r = .int .u64 rh) (fun t _ => (intOf t).toNat)
    case atStart => exact ⟨q1, r1, hk, hr1, rfl, rfl⟩
    case round =>
      obtain ⟨q, rh, hk', hr', rfl, rfl⟩ := hrel
      have hud : u < yn1 * 4294967296 + yn0 := by have := hu.out; have := hd.out; omega
      have Hud := Lib.hid hud
      clear hud
      have hsm := hk'.small
      by_cases c1 : 4294967296 ≤ q
      · have c1' : (4294967296 : Int) ≤ (q : Int) := by omega
        obtain ⟨hq1, hk2⟩ := kinv_step Hud.out hu1 hk' (.inl c1)
        obtain ⟨q', hq'⟩ : ∃ q', q' = q - 1 := ⟨q - 1, rfl⟩
        rw [← hq'] at hk2
        have eq' : (q : Int) - 1 = (q' : Int) := by omega
        have Hq' := Lib.hid hq'
        by_cases c2 : 4294967296 ≤ rh + yn1
        · have hend := Lib.hid (kinv_end hyn hk2 (kinv_end_great hyn0 (by omega) c2))
          have c2' : (4294967296 : Int) ≤ (rh : Int) + (yn1 : Int) := by omega
          clear hq' c1 c2 hk2 hk'
          go_wp2_with fail
          go_meet
          exact ⟨rfl, digit_mk hd.out hend.out⟩
        · have c2' : ¬ (4294967296 : Int) ≤ (rh : Int) + (yn1 : Int) := by omega
          clear hq' c1 hk'
          go_wp2_with fail
          go_round
          case rel => exact ⟨q', rh + yn1, hk2, by omega, rfl, by go_num⟩
          case measure => have := Hq'.out; simp [intOf]; omega
      · have c1' : ¬ (4294967296 : Int) ≤ (q : Int) := by omega
        have hb : q * yn0 ≤ 4294967295 * 4294967295 := Nat.mul_le_mul (by omega) (by omega)
        have hb2 : 0 ≤ (q : Int) * (yn0 : Int) ∧ (q : Int) * (yn0 : Int) ≤ 18446744065119617025 := by
          rw [← Int.natCast_mul]; omega
        obtain ⟨hb3, hb4⟩ := hb2
        by_cases c3 : 4294967296 * rh + un1 < q * yn0
        · have c3' : (4294967296 : Int) * (rh : Int) + (un1 : Int) < (q : Int) * (yn0 : Int) := by rw [← Int.natCast_mul]; omega
          obtain ⟨hq1, hk2⟩ := kinv_step Hud.out hu1 hk' (.inr c3)
          obtain ⟨q', hq'⟩ : ∃ q', q' = q - 1 := ⟨q - 1, rfl⟩
          rw [← hq'] at hk2
          have eq' : (q : Int) - 1 = (q' : Int) := by omega
          have Hq' := Lib.hid hq'
          by_cases c2 : 4294967296 ≤ rh + yn1
          · have hend := Lib.hid (kinv_end hyn hk2 (kinv_end_great hyn0 (by omega) c2))
            have c2' : (4294967296 : Int) ≤ (rh : Int) + (yn1 : Int) := by omega
            clear hq' hb c3 hk2 hk' c2
            go_wp2_with fail
            go_meet
            exact ⟨rfl, digit_mk hd.out hend.out⟩
          · have c2' : ¬ (4294967296 : Int) ≤ (rh : Int) + (yn1 : Int) := by omega
            clear hq' hb c3 hk'
            go_wp2_with fail
            go_round
            case rel => exact ⟨q', rh + yn1, hk2, by omega, rfl, by go_num⟩
            case measure => have := Hq'.out; simp [intOf]; omega
        · have c3' : ¬ (4294967296 : Int) * (rh : Int) + (un1 : Int) < (q : Int) * (yn0 : Int) := by rw [← Int.natCast_mul]; omega
          have hend := Lib.hid (kinv_end hyn hk' (by omega))
          clear c3 hb hk'
          go_wp2_with fail
          go_meet
          exact ⟨rfl, digit_mk hd.out hend.out⟩
  case rest =>
    obtain ⟨rfl, hdig⟩ := hcut
    unfold Digit at hdig
    rw [← hQ1.out] at hdig
    subst hdig
    go_upto_block 2 with (fail)
    go_cut [18] (fun s18 wx => wx = wc ∧ Digit d U un0 s18)
    case first =>
      go_wp2_with fail
      clear e1 e2 e3 e4a e4b e4 e5 e6 e7 e8 e9 e10 f1 f2 f3 f4 f5 f6
      go_loop [18, 16] (fun t r => ∃ q rh : Nat, KInv yn1 yn0 U un0 q rh ∧ rh < 4294967296 ∧ t = .int .u64 q ∧ r = .int .u64 rh) (fun t _ => (intOf t).toNat)
      case atStart => exact ⟨q0, r0, hk0, hr0, rfl, rfl⟩
      case round =>
        obtain ⟨q, rh, hk', hr', rfl, rfl⟩ := hrel
        have hud : U < yn1 * 4294967296 + yn0 := by have := hU.out; have := hd.out; omega
        have Hud := Lib.hid hud
        clear hud
        have hsm := hk'.small
        by_cases c1 : 4294967296 ≤ q
        · have c1' : (4294967296 : Int) ≤ (q : Int) := by omega
          obtain ⟨hq1, hk2⟩ := kinv_step Hud.out hu0 hk' (.inl c1)
          obtain ⟨q', hq'⟩ : ∃ q', q' = q - 1 := ⟨q - 1, rfl⟩
          rw [← hq'] at hk2
          have eq' : (q : Int) - 1 = (q' : Int) := by omega
          have Hq' := Lib.hid hq'
          by_cases c2 : 4294967296 ≤ rh + yn1
          · have hend := Lib.hid (kinv_end hyn hk2 (kinv_end_great hyn0 (by omega) c2))
            have c2' : (4294967296 : Int) ≤ (rh : Int) + (yn1 : Int) := by omega
            clear hq' c1 c2 hk2 hk'
            go_wp2_with fail
            go_meet
            exact ⟨rfl, digit_mk hd.out hend.out⟩
          · have c2' : ¬ (4294967296 : Int) ≤ (rh : Int) + (yn1 : Int) := by omega
            clear hq' c1 hk'
            go_wp2_with fail
            go_round
            case rel => exact ⟨q', rh + yn1, hk2, by omega, rfl, by go_num⟩
            case measure => have := Hq'.out; simp [intOf]; omega
        · have c1' : ¬ (4294967296 : Int) ≤ (q : Int) := by omega
          have hb : q * yn0 ≤ 4294967295 * 4294967295 := Nat.mul_le_mul (by omega) (by omega)
          have hb2 : 0 ≤ (q : Int) * (yn0 : Int) ∧ (q : Int) * (yn0 : Int) ≤ 18446744065119617025 := by
            rw [← Int.natCast_mul]; omega
          obtain ⟨hb3, hb4⟩ := hb2
          by_cases c3 : 4294967296 * rh + un0 < q * yn0
          · have c3' : (4294967296 : Int) * (rh : Int) + (un0 : Int) < (q : Int) * (yn0 : Int) := by rw [← Int.natCast_mul]; omega
            obtain ⟨hq1, hk2⟩ := kinv_step Hud.out hu0 hk' (.inr c3)
            obtain ⟨q', hq'⟩ : ∃ q', q' = q - 1 := ⟨q - 1, rfl⟩
            rw [← hq'] at hk2
            have eq' : (q : Int) - 1 = (q' : Int) := by omega
            have Hq' := Lib.hid hq'
            by_cases c2 : 4294967296 ≤ rh + yn1
            · have hend := Lib.hid (kinv_end hyn hk2 (kinv_end_great hyn0 (by omega) c2))
              have c2' : (4294967296 : Int) ≤ (rh : Int) + (yn1 : Int) := by omega
              clear hq' hb c3 hk2 hk' c2
              go_wp2_with fail
              go_meet
              exact ⟨rfl, digit_mk hd.out hend.out⟩
            · have c2' : ¬ (4294967296 : Int) ≤ (rh : Int) + (yn1 : Int) := by omega
              clear hq' hb c3 hk'
              go_wp2_with fail
              go_round
              case rel => exact ⟨q', rh + yn1, hk2, by omega, rfl, by go_num⟩
              case measure => have := Hq'.out; simp [intOf]; omega
          · have c3' : ¬ (4294967296 : Int) * (rh : Int) + (un0 : Int) < (q : Int) * (yn0 : Int) := by rw [← Int.natCast_mul]; omega
            have hend := Lib.hid (kinv_end hyn hk' (by omega))
            clear c3 hb hk'
            go_wp2_with fail
            go_meet
            exact ⟨rfl, digit_mk hd.out hend.out⟩
    case rest =>
      obtain ⟨rfl, hdig⟩ := hcut
      unfold Digit at hdig
      rw [← hQ0.out] at hdig
      subst hdig
      go_wp2_with fail
      go_ret2
      exact ⟨rfl, Dr.refl _⟩

theorem wrapN (a : Nat) (ha : a < 18446744073709551616) : IntKind.u64.wrap (a : Int) = (a : Int) := by rw [IntKind.wrap_u64]; omega
theorem wrapM (a : Nat) : IntKind.u64.wrap (a : Int) = ((a % 18446744073709551616 : Nat) : Int) := by rw [IntKind.wrap_u64]; omega

theorem maskN (a : Nat) (ha : a < 18446744073709551616) : bits .and .u64 (a : Int) 4294967295 = ((a % 4294967296 : Nat) : Int) := by
  have h := bits_and_u64_nat a 4294967295 ha (by omega)
  have e : a &&& 4294967295 = a % 4294967296 := Nat.and_two_pow_sub_one_eq_mod a 32
  rw [e] at h
  exact h

/-- What is left of a step, as the code makes it: no wrap is lost. -/
theorem rest_wrap {a b q d r : Nat} (h : a * 4294967296 + b = q * d + r) (hr : r < 18446744073709551616) :
    IntKind.u64.wrap (IntKind.u64.wrap (IntKind.u64.wrap ((a : Int) * 4294967296) + (b : Int)) - IntKind.u64.wrap ((q : Int) * (d : Int))) = (r : Int) := by
  have h' : (a : Int) * 4294967296 + (b : Int) = (q : Int) * (d : Int) + (r : Int) := by
    rw [← Int.natCast_mul]; omega
  generalize (q : Int) * (d : Int) = P at *
  simp only [IntKind.wrap_u64]
  omega

theorem quo_wrap {u y : Nat} (hu : u < 18446744073709551616) : IntKind.u64.wrap ((u : Int) / (y : Int)) = ((u / y : Nat) : Int) := by
  rw [← Int.natCast_ediv, wrapN]
  have := Nat.div_le_self u y
  generalize u / y = q at *
  omega

theorem mul_wrap {a b : Nat} (h : a * b < 18446744073709551616) : IntKind.u64.wrap ((a : Int) * (b : Int)) = ((a * b : Nat) : Int) := by
  rw [← Int.natCast_mul, wrapN _ h]

theorem sub_wrap {a b : Nat} (hb : b ≤ a) (ha : a < 18446744073709551616) : IntKind.u64.wrap ((a : Int) - (b : Int)) = ((a - b : Nat) : Int) := by
  rw [IntKind.wrap_u64]; omega

theorem shl_wrap (a s : Nat) : IntKind.u64.wrap ((a : Int) * 2 ^ s) = ((a * 2 ^ s % 18446744073709551616 : Nat) : Int) := by
  have e : (a : Int) * 2 ^ s = ((a * 2 ^ s : Nat) : Int) := by rw [Int.natCast_mul, Int.natCast_pow]; rfl
  rw [e, wrapM]

theorem shr_nat (a s : Nat) : (a : Int) / 2 ^ s = ((a / 2 ^ s : Nat) : Int) := by
  rw [Int.natCast_ediv, Int.natCast_pow]; rfl

theorem div_split (n d : Nat) : n = n / d * d + n % d := by
  rw [Nat.mul_comm]; exact (Nat.div_add_mod n d).symm

theorem join32 (u a b c : Nat) (h : c = a * 4294967296 + b) : (u * 4294967296 + a) * 4294967296 + b = u * 18446744073709551616 + c := by omega

theorem div64_pos (hi lo y : Nat) (w : World) (hh : 0 < hi) (hy : hi < y) (hlo : lo < 18446744073709551616) (hy2 : y < 18446744073709551616) :
    Calls Try.prog 21 #[.int .u64 hi, .int .u64 lo, .int .u64 y] w fun e w' => e = .returned (.tuple #[.int .u64 (((hi * 18446744073709551616 + lo) / y : Nat) : Int), .int .u64 (((hi * 18446744073709551616 + lo) % y : Nat) : Int)]) ∧ Dr w w' := by
  obtain ⟨hb, hn1, hn2⟩ := norm_spec y (by omega) hy2
  obtain ⟨s, hs⟩ : ∃ s, s = 64 - Lib.bitLen y := ⟨_, rfl⟩
  rw [← hs] at hn1 hn2
  have hs64 : s ≤ 64 := by omega
  have hp : 0 < 2 ^ s := Nat.two_pow_pos s
  have hpp : 2 ^ (64 - s) * 2 ^ s = 18446744073709551616 := by rw [← Nat.pow_add, show 64 - s + s = 64 by omega]
  -- the parts
  have hul : lo / 2 ^ (64 - s) < 2 ^ s := by
    rw [Nat.div_lt_iff_lt_mul (Nat.two_pow_pos _), Nat.mul_comm, hpp]; exact hlo
  have hlow : lo * 2 ^ s = lo / 2 ^ (64 - s) * 18446744073709551616 + lo * 2 ^ s % 18446744073709551616 := by
    have h1 : lo * 2 ^ s / 18446744073709551616 = lo / 2 ^ (64 - s) := by
      rw [← hpp]; exact Nat.mul_div_mul_right _ _ hp
    rw [← h1]
    omega
  have hhi : hi * 2 ^ s + 2 ^ s ≤ y * 2 ^ s := by
    have := Nat.mul_le_mul_right (2 ^ s) (show hi + 1 ≤ y by omega)
    rw [Nat.add_mul, Nat.one_mul] at this
    exact this
  obtain ⟨d, hd⟩ : ∃ d, d = y * 2 ^ s := ⟨_, rfl⟩
  obtain ⟨uh, huh⟩ : ∃ uh, uh = hi * 2 ^ s := ⟨_, rfl⟩
  obtain ⟨ul, hul'⟩ : ∃ ul, ul = lo / 2 ^ (64 - s) := ⟨_, rfl⟩
  obtain ⟨un10, hun10⟩ : ∃ un10, un10 = lo * 2 ^ s % 18446744073709551616 := ⟨_, rfl⟩
  have e1 := shl_wrap y s
  rw [← hd, Nat.mod_eq_of_lt (by omega)] at e1
  have e4a := shl_wrap hi s
  rw [← huh, Nat.mod_eq_of_lt (by omega)] at e4a
  have e4b := shr_nat lo (64 - s)
  rw [← hul'] at e4b
  have e5 := shl_wrap lo s
  rw [← hun10] at e5
  have e4 : bits .or .u64 (uh : Int) (ul : Int) = ((uh + ul : Nat) : Int) := by
    have h1 := or_join s hi ul (by omega) ?_ (by omega)
    · rw [Nat.mul_comm, ← huh] at h1
      exact h1
    · refine Nat.lt_of_mul_lt_mul_right (a := 2 ^ s) ?_
      rw [hpp]; omega
  rw [← hul'] at hul
  rw [← hd] at hn1 hn2 hhi
  rw [← huh] at hhi
  rw [← hul', ← hun10] at hlow
  have hN : (hi * 18446744073709551616 + lo) * 2 ^ s = (uh + ul) * 18446744073709551616 + un10 := by
    rw [Nat.add_mul, hlow, Nat.mul_assoc, Nat.mul_comm 18446744073709551616, ← Nat.mul_assoc, ← huh]
    omega
  obtain ⟨sc1, sc2⟩ := kscale (hi * 18446744073709551616 + lo) y s
  rw [hN, ← hd] at sc1 sc2
  clear hN hpp hp hb
  have hun : un10 < 18446744073709551616 := by omega
  have hu : uh + ul < d := by omega
  generalize uh + ul = u at *
  have hd0 : 0 < d := by omega
  have hdd : d = d / 4294967296 * 4294967296 + d % 4294967296 := by omega
  have hy1 : 2147483648 ≤ d / 4294967296 := by omega
  have hy1' : d / 4294967296 < 4294967296 := by omega
  have e2 : (d : Int) / 4294967296 = ((d / 4294967296 : Nat) : Int) := by omega
  have e3 := maskN d hn2
  have e6 : (un10 : Int) / 4294967296 = ((un10 / 4294967296 : Nat) : Int) := by omega
  have e7 := maskN un10 hun
  obtain ⟨yn1, hyn1⟩ : ∃ yn1, yn1 = d / 4294967296 := ⟨_, rfl⟩
  obtain ⟨yn0, hyn0⟩ : ∃ yn0, yn0 = d % 4294967296 := ⟨_, rfl⟩
  obtain ⟨un1, hun1⟩ : ∃ un1, un1 = un10 / 4294967296 := ⟨_, rfl⟩
  obtain ⟨un0, hun0⟩ : ∃ un0, un0 = un10 % 4294967296 := ⟨_, rfl⟩
  rw [← hyn1] at e2 hdd hy1 hy1'
  rw [← hyn0] at e3 hdd
  rw [← hun1] at e6
  rw [← hun0] at e7
  have hyn0' : yn0 < 4294967296 := by omega
  have hun1' : un1 < 4294967296 := by omega
  have hun0' : un0 < 4294967296 := by omega
  have hu10 : un10 = un1 * 4294967296 + un0 := by omega
  have hud : u < yn1 * 4294967296 + yn0 := by omega
  have hk := kinv_start hy1 hyn0' hud hun1'
  have hr1 := kinv_rh (u := u) (show 0 < yn1 by omega)
  have hle := Nat.div_mul_le_self u yn1
  -- the first digit
  obtain ⟨Q1, hQ1⟩ : ∃ Q1, Q1 = (u * 4294967296 + un1) / d := ⟨_, rfl⟩
  obtain ⟨U, hU⟩ : ∃ U, U = (u * 4294967296 + un1) % d := ⟨_, rfl⟩
  have hUd : U < d := by rw [hU]; exact Nat.mod_lt _ hd0
  have hQ1lt : Q1 < 4294967296 := by rw [hQ1]; exact kq_lt hu hun1'
  have hsp1 : u * 4294967296 + un1 = Q1 * d + U := by
    rw [hQ1, hU]; exact div_split _ _
  have hUd' : U < yn1 * 4294967296 + yn0 := by omega
  have hk0 := kinv_start hy1 hyn0' hUd' hun0'
  have hr0 := kinv_rh (u := U) (show 0 < yn1 by omega)
  have hle0 := Nat.div_mul_le_self U yn1
  obtain ⟨Q0, hQ0⟩ : ∃ Q0, Q0 = (U * 4294967296 + un0) / d := ⟨_, rfl⟩
  obtain ⟨R, hR⟩ : ∃ R, R = (U * 4294967296 + un0) % d := ⟨_, rfl⟩
  have hRd : R < d := by rw [hR]; exact Nat.mod_lt _ hd0
  have hQ0lt : Q0 < 4294967296 := by rw [hQ0]; exact kq_lt hUd hun0'
  have hsp0 : U * 4294967296 + un0 = Q0 * d + R := by
    rw [hQ0, hR]; exact div_split _ _
  obtain ⟨k1, k2⟩ := kdigits (u := u) (u1 := un1) (u0 := un0) hd0
  rw [← hQ1, ← hU, ← hQ0] at k1
  rw [← hU, ← hR] at k2
  have e9' : (u * 4294967296 + un1) * 4294967296 + un0 = u * 18446744073709551616 + un10 := join32 u un1 un0 un10 hu10
  rw [e9', sc1] at k1
  rw [e9'] at k2
  rw [← k2] at sc2
  have f6 : IntKind.u64.wrap (IntKind.u64.wrap (IntKind.u64.wrap ((U : Int) * 4294967296) + (un0 : Int)) - IntKind.u64.wrap ((Q0 : Int) * (d : Int))) / 2 ^ s = ((R / 2 ^ s : Nat) : Int) := by
    rw [rest_wrap hsp0 (by omega), shr_nat]
  have f5 : IntKind.u64.wrap (IntKind.u64.wrap ((Q1 : Int) * 4294967296) + (Q0 : Int)) = ((Q1 * 4294967296 + Q0 : Nat) : Int) := by
    simp only [IntKind.wrap_u64]; omega
  have main := div64_walk hi lo y s d yn1 yn0 uh ul u un10 un1 un0 (u / yn1) (u / yn1 * yn1) (u - u / yn1 * yn1) Q1 U (U / yn1) (U / yn1 * yn1) (U - U / yn1 * yn1) Q0 _ _ w hh hy hy2 (Lib.hid hs) hs64
    e1 e2 e3 e4a e4b e4 e5 e6 e7 (quo_wrap (by omega)) (mul_wrap (by omega)) (sub_wrap hle (by omega)) hy1 hy1' hyn0' (Lib.hid hdd) hun1' (Lib.hid hu) hk (by omega)
    (Lib.hid hQ1) (rest_wrap hsp1 (by omega)) (quo_wrap (by omega)) (mul_wrap (by omega)) (sub_wrap hle0 (by omega)) hun0' (Lib.hid hUd) hk0 (by omega)
    (Lib.hid hQ0) f5 f6
  rw [k1, sc2] at main
  exact main

/-- math/bits.Div64 of a great word below the divisor: the quotient and the rest; order draws alone turn the world. -/
theorem div64_any (hi lo y q r : Nat) (w : World) (hy : hi < y) (hlo : lo < 18446744073709551616) (hy2 : y < 18446744073709551616)
    (hq : q = (hi * 18446744073709551616 + lo) / y) (hr : r = (hi * 18446744073709551616 + lo) % y) :
    Calls Try.prog 21 #[.int .u64 hi, .int .u64 lo, .int .u64 y] w fun e w' => e = .returned (.tuple #[.int .u64 (q : Int), .int .u64 (r : Int)]) ∧ Dr w w' := by
  by_cases hh : 0 < hi
  · rw [hq, hr]
    exact div64_pos hi lo y w hh hy hlo hy2
  · obtain rfl : hi = 0 := by omega
    have h := div64_zero lo y w hy hlo hy2
    rw [Nat.zero_mul, Nat.zero_add] at hq hr
    rw [hq, hr]
    exact h

end Go.Proofs.Ytomegcicfpmefaa
