/- CreditBounds. -/
import Derived.Test.YtomegcicfpmefaaTold22
import Derived.Test.YtomegcicfpmefaaFixE
namespace Go.Proofs.Ytomegcicfpmefaa
open Go.RowKit Go.Maps
set_option linter.unusedVariables false

/-- What so many words of scanning are worth, where nothing is cut. -/
theorem worth_in {r s : Int} (r1 : 131072 ≤ r) (s1 : 0 ≤ s) (s2 : s ≤ 20000) : worthV r s = s * 1099511627776 / r / 1048576 ∧ 0 ≤ worthV r s ∧ worthV r s ≤ 160000 := by
  have e1 : fWhole s = s * 1048576 := clamp_in (by omega) (by omega)
  have h0 : 0 ≤ s * 1099511627776 := by omega
  have q0 : 0 ≤ s * 1099511627776 / r := Int.ediv_nonneg h0 (by omega)
  have q1 : s * 1099511627776 / r ≤ 167772160000 := by
    have : s * 1099511627776 ≤ 167772160000 * r := by
      have : 167772160000 * 131072 ≤ 167772160000 * r := Int.mul_le_mul_of_nonneg_left r1 (by omega)
      omega
    exact Int.ediv_le_of_le_mul (by omega) this
  have e2 : fDiv (s * 1048576) r = s * 1099511627776 / r := by
    unfold fDiv
    rw [if_neg (by omega), floorDiv_pos (by omega)]
    have : s * 1048576 * 1048576 = s * 1099511627776 := by rw [Int.mul_assoc]; rfl
    rw [this]
    exact clamp_in (by omega) (by omega)
  have e3 : worthV r s = s * 1099511627776 / r / 1048576 := by unfold worthV fInt; rw [e1, e2]
  refine ⟨e3, ?_, ?_⟩
  · rw [e3]; omega
  · rw [e3]; omega
theorem worth_mono {r s t : Int} (r1 : 131072 ≤ r) (s1 : 0 ≤ s) (h : s ≤ t) (t2 : t ≤ 20000) : worthV r s ≤ worthV r t := by
  rw [(worth_in r1 s1 (by omega)).1, (worth_in r1 (by omega) t2).1]
  have : s * 1099511627776 / r ≤ t * 1099511627776 / r := Int.ediv_le_ediv (by omega) (by omega)
  omega

theorem and_small (x : Int) (k : Nat) (hk : k ≤ 62) : 0 ≤ bits .and .i64 x ((2 ^ k - 1 : Nat) : Int) ∧ bits .and .i64 x ((2 ^ k - 1 : Nat) : Int) < ((2 ^ k : Nat) : Int) := by
  rw [and_mask x k hk]
  have : (0 : Int) < ((2 ^ k : Nat) : Int) := by have := Nat.two_pow_pos k; omega
  exact ⟨Int.emod_nonneg _ (by omega), Int.emod_lt_of_pos _ this⟩

/-- What holds between two rounds. -/
def Bnd (w : World) (r : Int) (i : Nat) (wr : World) : Prop :=
  ∃ (a s : Int) (n : Nat) (f : Int → Int × Int), Own1 w wr (w.heap.size + 1) w.heap.size r 0 f n ∧ f 0 = (a, s) ∧ n ≤ i ∧ 0 ≤ a ∧ a ≤ 300 * i ∧ 0 ≤ s ∧ s ≤ 300 * i ∧ a ≤ 64 + worthV r s

set_option maxRecDepth 10000 in
set_option maxHeartbeats 6400000 in
theorem bounds_walk (ratio : Int) (a : Option Addr) (len cap : Nat) (w : World)
    (hl : len ≤ cap) (hm : cap ≤ 9223372036854775807) (hb : len = 0 ∨ ∃ b off, a = some ⟨b, off, none⟩ ∧ b < w.heap.size ∧ ∀ i, i < len → ∃ x y z : Int, w.cell? ⟨b, off + i * 3, none⟩ = some (.int .i64 x) ∧ w.cell? ⟨b, off + i * 3 + 1, none⟩ = some (.int .i64 y) ∧ w.cell? ⟨b, off + i * 3 + 2, none⟩ = some (.int .i64 z)) :
    Calls Try.prog 3 #[.int .i64 ratio, .slice a len cap] w fun e w' => e = .returned (.bool true) ∧ Below w.heap.size w w' := by
  obtain ⟨q1, q2⟩ := and_small ratio 26 (by omega)
  obtain ⟨q, hq⟩ : ∃ q, bits .and .i64 ratio 67108863 = q := ⟨_, rfl⟩
  rw [show ((2 ^ 26 - 1 : Nat) : Int) = 67108863 from rfl, hq] at q1 q2
  rw [show ((2 ^ 26 : Nat) : Int) = 67108864 from rfl] at q2
  obtain ⟨r, hr⟩ : ∃ r, 131072 + q = r := ⟨_, rfl⟩
  have r1 : 131072 ≤ r := by omega
  have r2 : r < 67239936 := by omega
  have Hb := Lib.hid hb
  clear hb
  go_enter Try.func3, Try.ntmps3
  go_wp2_with fail
  refine (onew r (by unfold I64; omega) (Ex.refl w)).mono ?_
  rintro e w1 ⟨rfl, h, -⟩
  have w00 : worthV r 0 = 0 := by rw [(worth_in r1 (by omega) (by omega)).1]; simp
  have B1 : Hid (Bnd w r 0 w1) := Lib.hid ⟨0, 0, 0, _, h, rfl, by omega, by omega, by omega, by omega, by omega, by rw [w00]; omega⟩
  clear h w00
  go_wp2_with fail
  go_loopw [7] (fun iv wr => ∃ i : Nat, i ≤ 60 ∧ i ≤ len ∧ iv = .int .i64 i ∧ Bnd w r i wr) (fun iv _ => 60 - (intOf iv).toNat)
  case atStart => exact ⟨0, by omega, by omega, rfl, B1.out⟩
  case round =>
    obtain ⟨i, i1, i2, rfl, hB⟩ := hrel
    have HB := Lib.hid hB
    clear hB B1
    by_cases hk : i < len ∧ i < 60
    · obtain ⟨k1, k2⟩ := hk
      obtain ⟨b, off, rfl, hbb, hops⟩ := Hb.out.resolve_left (by omega)
      obtain ⟨kd, G, N, o0, o1, o2⟩ := hops i k1
      obtain ⟨p, s, n, f, hO, hf, hn, p1, p2, s1, s2, hps⟩ := HB.out
      have d0 : wr.cell? ⟨b, off + i * 3, none⟩ = some (.int .i64 kd) := (hO.below.cell (p := ⟨b, off + i * 3, none⟩) hbb).trans o0
      have d2 : wr.cell? ⟨b, off + i * 3 + 2, none⟩ = some (.int .i64 N) := (hO.below.cell (p := ⟨b, off + i * 3 + 2, none⟩) hbb).trans o2
      have O := Lib.hid hO
      have F := Lib.hid hf
      have PS := Lib.hid hps
      obtain ⟨x, hx⟩ : ∃ r, (IntKind.u64.wrap N).tmod 301 = r := ⟨_, rfl⟩
      obtain ⟨x1, x2⟩ := umod_bd N 301 (by omega)
      rw [hx] at x1 x2
      obtain ⟨kk, hkk⟩ : ∃ kk, bits .and .i64 kd 3 = kk := ⟨_, rfl⟩
      clear o0 o1 o2 hops hO hf hps HB
      have w1b := worth_in (r := r) (s := s) r1 s1 (by omega)
      obtain ⟨v, hv⟩ : ∃ v, worthV r s = v := ⟨_, rfl⟩
      rw [hv] at PS w1b
      obtain ⟨-, v1, v2⟩ := w1b
      have HV := Lib.hid hv
      have a0 : fAdd 64 v = 64 + v := add_in (by omega) (by omega)
      have a1 : fAdd p x = p + x := add_in (by omega) (by omega)
      have a2 : fAdd s x = s + x := add_in (by omega) (by omega)
      have A0 := Lib.hid a0
      have A1 := Lib.hid a1
      have A2 := Lib.hid a2
      clear hv a0 a1 a2
      have ways : (kk = 3 ∧ 0 < x) ∨ (kk = 3 ∧ x = 0) ∨ ((kk == 3) = false ∧ p + x ≤ 64 + v) ∨ ((kk == 3) = false ∧ 64 + v < p + x) := by
        by_cases h3 : kk = 3
        · by_cases h4 : 0 < x
          · exact .inl ⟨h3, h4⟩
          · exact .inr (.inl ⟨h3, by omega⟩)
        · have h3' : (kk == 3) = false := by simpa using h3
          by_cases h4 : p + x ≤ 64 + v
          · exact .inr (.inr (.inl ⟨h3', h4⟩))
          · exact .inr (.inr (.inr ⟨h3', by omega⟩))
      rcases ways with ⟨rfl, h4⟩ | ⟨rfl, rfl⟩ | ⟨h3, h4⟩ | ⟨h3, h4⟩
      -- scanned
      go_wp2_with fail
      refine (oscan O.out (g := 0) F.out wf0 h4 (by omega) (by omega) A2.out).mono ?_
      rintro e wz ⟨rfl, h, -⟩
      have TT : Hid (∃ n f, Own1 w wz (w.heap.size + 1) w.heap.size r 0 f n ∧ f 0 = (p, s + x) ∧ n ≤ i + 1 ∧ 0 ≤ p ∧ p ≤ 300 * (i + 1 : Nat) ∧ 0 ≤ s + x ∧ s + x ≤ 300 * (i + 1 : Nat) ∧ p ≤ 64 + worthV r (s + x)) := by
        have := worth_mono (r := r) (s := s) (t := s + x) r1 s1 (by omega) (by omega)
        rw [HV.out] at this
        have := PS.out
        exact Lib.hid ⟨n + 1, _, h, put_same _ _ _, by omega, by omega, by omega, by omega, by omega, by omega⟩
      clear h O
      obtain ⟨p', hp'⟩ : ∃ p', p' = p := ⟨_, rfl⟩
      obtain ⟨s', hs'⟩ : ∃ s', s' = s + x := ⟨_, rfl⟩
      rw [← hp', ← hs'] at TT
      clear hp' hs'
      go_wp2_with fail
      rotate_left
      -- nothing scanned
      go_wp2_with fail
      refine (scan_no (w.heap.size + 1) 0 0 _ (by omega)).mono ?_
      rintro e w' ⟨rfl, rfl⟩
      obtain ⟨wz, rfl⟩ : ∃ wz : World, wz = wr := ⟨_, rfl⟩
      have TT : Hid (∃ n f, Own1 w wz (w.heap.size + 1) w.heap.size r 0 f n ∧ f 0 = (p, s) ∧ n ≤ i + 1 ∧ 0 ≤ p ∧ p ≤ 300 * (i + 1 : Nat) ∧ 0 ≤ s ∧ s ≤ 300 * (i + 1 : Nat) ∧ p ≤ 64 + worthV r s) := by
        have := PS.out
        exact Lib.hid ⟨n, _, O.out, F.out, by omega, by omega, by omega, by omega, by omega, by rw [HV.out]; omega⟩
      clear O
      obtain ⟨p', hp'⟩ : ∃ p', p' = p := ⟨_, rfl⟩
      obtain ⟨s', hs'⟩ : ∃ s', s' = s := ⟨_, rfl⟩
      rw [← hp', ← hs'] at TT
      clear hp' hs'
      go_wp2_with fail
      rotate_left
      -- allocated
      go_wp2_with fail
      refine (osums O.out (g := 0) F.out wf0).mono ?_
      rintro e wa ⟨rfl, h, -⟩
      have O1 := Lib.hid h
      clear h O
      go_wp2_with fail
      refine (oalloc O1.out (g := 0) F.out wf0 x1 (by omega) (by omega) A1.out (.inr ⟨by omega, by rw [HV.out, A0.out]; exact h4⟩)).mono ?_
      rintro e wb ⟨rfl, h, -⟩
      have O2 := Lib.hid h
      clear h O1
      go_wp2_with fail
      refine (osums O2.out (g := 0) (put_same _ _ _) wf0).mono ?_
      rintro e wz ⟨rfl, h, -⟩
      have TT : Hid (∃ n f, Own1 w wz (w.heap.size + 1) w.heap.size r 0 f n ∧ f 0 = (p + x, s) ∧ n ≤ i + 1 ∧ 0 ≤ p + x ∧ p + x ≤ 300 * (i + 1 : Nat) ∧ 0 ≤ s ∧ s ≤ 300 * (i + 1 : Nat) ∧ p + x ≤ 64 + worthV r s) := by
        exact Lib.hid ⟨n + 1, _, h, put_same _ _ _, by omega, by omega, by omega, by omega, by omega, by rw [HV.out]; exact h4⟩
      clear h O2
      go_wp2_with fail
      obtain ⟨p', hp'⟩ : ∃ p', p' = p + x := ⟨_, rfl⟩
      obtain ⟨s', hs'⟩ : ∃ s', s' = s := ⟨_, rfl⟩
      rw [← hp', ← hs'] at TT
      clear hp' hs'
      rotate_left
      -- not allocated
      go_wp2_with fail
      refine (osums O.out (g := 0) F.out wf0).mono ?_
      rintro e wa ⟨rfl, h, -⟩
      have O1 := Lib.hid h
      clear h O
      go_wp2_with fail
      refine (oallocno O1.out (g := 0) F.out wf0 x1 (by omega) A1.out (by omega) (by rw [HV.out, A0.out]; exact h4)).mono ?_
      rintro e wb ⟨rfl, h, -⟩
      have O2 := Lib.hid h
      clear h O1
      go_wp2_with fail
      refine (osums O2.out (g := 0) F.out wf0).mono ?_
      rintro e wz ⟨rfl, h, -⟩
      have TT : Hid (∃ n f, Own1 w wz (w.heap.size + 1) w.heap.size r 0 f n ∧ f 0 = (p, s) ∧ n ≤ i + 1 ∧ 0 ≤ p ∧ p ≤ 300 * (i + 1 : Nat) ∧ 0 ≤ s ∧ s ≤ 300 * (i + 1 : Nat) ∧ p ≤ 64 + worthV r s) := by
        have := PS.out
        exact Lib.hid ⟨n, _, h, F.out, by omega, by omega, by omega, by omega, by omega, by rw [HV.out]; omega⟩
      clear h O2
      go_wp2_with fail
      obtain ⟨p', hp'⟩ : ∃ p', p' = p := ⟨_, rfl⟩
      obtain ⟨s', hs'⟩ : ∃ s', s' = s := ⟨_, rfl⟩
      rw [← hp', ← hs'] at TT
      clear hp' hs'
      rotate_left
      all_goals
        obtain ⟨n', f', t1, t2, t3, t4, t5, t6, t7, t8⟩ := TT.out
        have O' := Lib.hid t1
        have F' := Lib.hid t2
        obtain ⟨-, u1, u2⟩ := worth_in (r := r) (s := s') r1 t6 (by omega)
        obtain ⟨aw, haw⟩ : ∃ aw, fWhole s' = aw := ⟨_, rfl⟩
        obtain ⟨dq, hdq⟩ : ∃ dq, fDiv aw r = dq := ⟨_, rfl⟩
        obtain ⟨v', hv'⟩ : ∃ v', fInt dq = v' := ⟨_, rfl⟩
        have ev : worthV r s' = v' := by unfold worthV; rw [haw, hdq, hv']
        have ia : I64 aw := by rw [← haw]; exact i_whole _
        rw [ev] at u1 u2 t8
        have K1 := Lib.hid haw
        have K2 := Lib.hid hdq
        have K3 := Lib.hid hv'
        have EV := Lib.hid ev
        clear haw hdq hv' ev t1 t2 TT
        first
        | (refine (osums O'.out (g := 0) F'.out wf0).mono ?_)
        | (go_wp2_with fail; refine (osums O'.out (g := 0) F'.out wf0).mono ?_)
        rintro e wc ⟨rfl, h, -⟩
        have O3 := Lib.hid h
        clear h O'
        go_wp2_with fail
        refine (rw_whole K1 (by omega) (by omega)).mono ?_
        rintro e w' ⟨rfl, rfl⟩
        go_wp2_with fail
        refine (rw_div K2 ia.1 ia.2 (by omega) (by omega)).mono ?_
        rintro e wd ⟨rfl, hd⟩
        have O4 := Lib.hid (O3.out.ex hd.ex)
        clear hd O3
        go_wp2_with fail
        refine (rw_int K3).mono ?_
        rintro e w' ⟨rfl, rfl⟩
        go_wp2_with fail
        go_roundw
        case rel => exact ⟨i + 1, by omega, by omega, by go_num, p', s', n', f', O4.out, F'.out, t3, t4, t5, t6, t7, by rw [EV.out]; exact t8⟩
        case measure => simp [intOf]; omega
    · obtain ⟨p, s, n, f, hO, -⟩ := HB.out
      have O := Lib.hid hO
      clear hO HB
      rcases (by omega : ¬ i < len ∨ (i < len ∧ ¬ i < 60)) with k1 | ⟨k1, k2⟩
      all_goals
        go_wp2_with fail
        refine (told_any _).mono ?_
        rintro e wa ⟨rfl, hx⟩
        have O1 := Lib.hid (O.out.ex hx)
        clear hx O
        go_wp2_with fail
        go_ret
        exact ⟨rfl, O1.out.below⟩

end Go.Proofs.Ytomegcicfpmefaa
