/- RateMeans. -/
import Derived.Test.YthhgpoihkmokcaaDoorFInt31
import Derived.Test.YthhgpoihkmokcaaDoorOrder31
import Derived.IntWalk
namespace Go.Proofs.YthhgpoihkmokcaaDoor
open Go.RowKit Ieee
set_option linter.unusedVariables false
set_option linter.unusedSimpArgs false

/-- The whole numbers can be read off a slice. -/
def Zs (w : World) (a : Option Addr) (n : Nat) (l : List Int) : Prop :=
  n = 0 ∨ ∃ b off, a = some ⟨b, off, none⟩ ∧ b < w.heap.size ∧ ∀ i, i < n → w.cell? ⟨b, off + i, none⟩ = some (.int .i64 (l.getD i 0))
theorem Zs.ex {w w' : World} {a : Option Addr} {n : Nat} {l : List Int} (h : Zs w a n l) (k : Ex w w') : Zs w' a n l :=
  h.imp id fun ⟨b, off, e, hb, hc⟩ => ⟨b, off, e, Nat.lt_of_lt_of_le hb k.size, fun i hi => (k.cell (p := ⟨b, off + i, none⟩) hb).trans (hc i hi)⟩

theorem zs_of {w : World} {a : Option Addr} {len cap : Nat} {zs : List Int}
    (h : (a = none ∧ len = 0 ∧ cap = 0 ∧ zs = []) ∨ ∃ x, a = some x ∧ len ≤ cap ∧ cap ≤ maxLen ∧ zs.length = cap ∧ (∀ i, i < zs.length → w.cell? (x.add i) = some (.int .i64 (zs.getD i 0))) ∧ ∀ n ∈ zs, (Lit.int .i64 n).wf = true) : Zs w a len zs := by
  rcases h with ⟨-, h2, -, -⟩ | ⟨⟨b, off, spot⟩, rfl, h1, h2, h3, h4, h5⟩
  · exact .inl h2
  · by_cases h0 : len = 0
    · exact .inl h0
    · have hc := h4 0 (by omega)
      have hspot : spot = none := by simpa [Addr.add] using World.cell?_spot hc
      subst hspot
      refine .inr ⟨b, off, rfl, ?_, fun i hi => ?_⟩
      · simp only [World.cell?, Addr.add] at hc
        by_cases hlt : b < w.heap.size
        · exact hlt
        · simp [Array.getElem?_eq_none (Nat.not_lt.1 hlt)] at hc
      · have := h4 i (by omega)
        rw [Addr.add_lit] at this
        exact this

theorem sumW_app (F : List Nat) (x : Nat) : sumW (F ++ [x]) (F ++ [x]).length = if nanB x = true then sumW F F.length else (addW (sumW F F.length).1 x, (sumW F F.length).2 + 1) := by
  unfold sumW
  rw [List.take_length, List.take_length, List.foldl_append]
  rfl

/-- What is known behind the first i. -/
structure Mid (i : Nat) (S lo hi : Int) (F : List Nat) : Prop where
  len : F.length ≤ 2 * i
  sum : sumW F F.length = (floatOfInt .f64 S, i)
  bd : -1000 * (i : Int) ≤ S ∧ S ≤ 1000 * (i : Int)
  lo1 : -1001 ≤ lo ∧ lo ≤ 1001
  hi1 : -1001 ≤ hi ∧ hi ≤ 1001
  lo2 : lo * i ≤ S
  hi2 : S ≤ hi * i
theorem Mid.zero : Mid 0 0 1001 (-1001) [] := ⟨by simp, by decide +kernel, by omega, by omega, by omega, by simp, by simp⟩
theorem Mid.step {i : Nat} {S lo hi K : Int} {F : List Nat} (h : Mid i S lo hi F) (h1 : -1000 ≤ K) (h2 : K ≤ 1000) (hi60 : i < 60) : Mid (i + 1) (S + K) (min lo K) (max hi K) (F ++ [floatOfInt .f64 K]) := by
  obtain ⟨a1, a2, a3, a4, a5, a6, a7⟩ := h
  refine ⟨by simp; omega, ?_, by omega, by omega, by omega, ?_, ?_⟩
  · rw [sumW_app, if_neg (by rw [(int_parts K).2.2]; simp), a2]
    have := add_int S K (by omega) (by omega)
    unfold addW
    rw [this]
    rfl
  · have e : min lo K * ((i + 1 : Nat) : Int) = min lo K * i + min lo K := by rw [Int.natCast_add, Int.mul_add]; simp
    rw [e]
    have : min lo K * i ≤ lo * i := Int.mul_le_mul_of_nonneg_right (Int.min_le_left _ _) (by omega)
    have := Int.min_le_right lo K
    omega
  · have e : max hi K * ((i + 1 : Nat) : Int) = max hi K * i + max hi K := by rw [Int.natCast_add, Int.mul_add]; simp
    rw [e]
    have : hi * i ≤ max hi K * i := Int.mul_le_mul_of_nonneg_right (Int.le_max_left _ _) (by omega)
    have := Int.le_max_right hi K
    omega
theorem Mid.none {i : Nat} {S lo hi : Int} {F : List Nat} {x : Nat} (h : Mid (i + 1) S lo hi F) (hx : nanB x = true) (hl : F.length ≤ 2 * i + 1) : Mid (i + 1) S lo hi (F ++ [x]) := by
  obtain ⟨a1, a2, a3, a4, a5, a6, a7⟩ := h
  refine ⟨by simp; omega, ?_, a3, a4, a5, a6, a7⟩
  rw [sumW_app, if_pos hx, a2]

theorem ex_app {w wr w2 : World} {v : Value} {F : List Nat} (hx : Ex w wr) (hr : RowF wr w.heap.size v F) (o : Obj) (hg : (wr.alloc o).grownBy w2 v.ownBlock) : Ex w w2 :=
  Below.grown (Below.alloc hx hx.size o) hg (by have := hx.size; simp; omega) (fun k hk => by
    rcases row_shape hr with ⟨h1, -⟩ | ⟨g, cap, h1, h2, -⟩
    · subst h1; cases hk
    · subst h1; cases hk; exact h2)
theorem rowF_app {w : World} {B : Nat} {v : Value} {F : List Nat} {x : Nat} (h : w.ownsRow B 23 1 v (F.length + 1) (cellsF F ++ [.float .f64 x])) : RowF w B v (F ++ [x]) := by
  unfold RowF
  rw [List.length_append, cellsF_append]
  exact h

set_option maxRecDepth 20000 in
set_option maxHeartbeats 12800000 in
theorem walk_RateMeans {a : Option Addr} {n : Nat} (cap : Nat) {l : List Int} (nn : Int) (w : World) (h : n ≤ 60 → Zs w a n l) :
    Calls Tryd.prog 8 #[.slice a n cap, .int .i64 nn] w fun e w' => e = .returned (.bool true) ∧ Ex w w' := by
  by_cases hn : n = 0 ∨ 60 < n
  · have hd : n = 0 ∨ (¬ n = 0 ∧ (60 : Int) < (n : Int)) := by omega
    clear h hn
    rcases hd with rfl | ⟨hd1, hd2⟩
    · go_enter Tryd.func8, Tryd.ntmps8
      go_wp2_with fail
      refine (told_any w).mono ?_
      rintro e w4 ⟨rfl, hx⟩
      go_wp2_with fail
      go_ret
      exact ⟨rfl, hx⟩
    · have hd3 : ((n : Int) == 0) = false := by simp; omega
      go_enter Tryd.func8, Tryd.ntmps8
      go_wp2_with fail
      refine (told_any w).mono ?_
      rintro e w4 ⟨rfl, hx⟩
      go_wp2_with fail
      go_ret
      exact ⟨rfl, hx⟩
  · have H := Lib.hid (h (by omega))
    have hd2 : ¬ ((60 : Int) < (n : Int)) := by omega
    have hd3 : ((n : Int) == 0) = false := by simp; omega
    have hn60 : (n : Int) ≤ 60 := by omega
    have HN : Hid (1 ≤ n ∧ n ≤ 60) := Lib.hid (by omega)
    clear h hn
    go_enter Tryd.func8, Tryd.ntmps8
    go_wp2_with fail
    go_loopw [5, 6, 7, 8, 9] (fun fv sv lv hv iv wr => ∃ (i : Nat) (S lo hi : Int) (F : List Nat), i ≤ n ∧ iv = .int .i64 i ∧ sv = .int .i64 S ∧ lv = .int .i64 lo ∧ hv = .int .i64 hi ∧ Mid i S lo hi F ∧ RowF wr w.heap.size fv F ∧ Ex w wr) (fun _ _ _ _ iv _ => n - (intOf iv).toNat)
    case atStart => exact ⟨0, 0, 1001, -1001, [], by omega, rfl, rfl, rfl, rfl, Mid.zero, World.ownsRow_nil _ _ _ _, Ex.refl w⟩
    case round =>
      obtain ⟨i, S, lo, hi, F, hin, rfl, rfl, rfl, rfl, hm, hr, hx⟩ := hrel
      have HX := Lib.hid hx
      have HR := Lib.hid hr
      have HM := Lib.hid hm
      have b1 := hm.bd
      have b2 := hm.lo1
      have b3 := hm.hi1
      have b4 := hm.len
      clear hx hr hm
      by_cases hlt : i < n
      · have q1 : (i : Int) < (n : Int) := by omega
        obtain ⟨b, off, rfl, -, hc⟩ := (H.out.ex HX.out).resolve_left (by omega)
        obtain ⟨z, hz⟩ : ∃ z, l.getD i 0 = z := ⟨_, rfl⟩
        have c0 : wr.cell? ⟨b, off + i, none⟩ = some (.int .i64 z) := hz ▸ hc i hlt
        have kb1 := Int.tmod_lt_of_pos z (b := 1001) (by omega)
        have kb2 := Int.lt_tmod_of_pos z (b := 1001) (by omega)
        obtain ⟨K, hK⟩ : ∃ K, z.tmod 1001 = K := ⟨_, rfl⟩
        rw [hK] at kb1 kb2
        have hmn : ∀ ts t (w : World), (Builtin.min_ ts t #[.int .i64 lo, .int .i64 K]).run Tryd.prog w = .ok (.int .i64 (min lo K)) w := fun ts t w => by
          rw [run_min_int2]; congr 2; split <;> omega
        have hmx : ∀ ts t (w : World), (Builtin.max_ ts t #[.int .i64 hi, .int .i64 K]).run Tryd.prog w = .ok (.int .i64 (max hi K)) w := fun ts t w => by
          rw [run_max_int2]; congr 2; split <;> omega
        have q2 : wrap64 (S + K) = S + K := by unfold wrap64; omega
        have HM1 := Lib.hid (HM.out.step (K := K) (by omega) (by omega) (by omega))
        have HL1 : Hid ((F ++ [floatOfInt .f64 K]).length ≤ 2 * i + 1) := Lib.hid (by simp; omega)
        have HL2 : Hid (F.length ≤ 200) := Lib.hid (by omega)
        obtain ⟨i0, hi0, hz0, hz1, hz2⟩ := info_parts info_flt
        clear hz hc b1 b2 b3 b4
        go_wp2_with (at_builtin; refine wpList_append_mine _ rfl (.tmp 41) (.tmp 44) 22 rfl w.heap.size 23 i0 (.float .f64 0) 1 8 Tryd.underlying22 hi0 hz0 hz1 hz2 rfl (by decide) _ _ _ rfl (HR.out.alloc _) ⟨wr.heap.size, 0, none⟩ 1 1 [.float .f64 (floatOfInt .f64 K)] rfl rfl (one_new _ _ _) (one_cell rfl) (by have := HL2.out; unfold maxLen; omega) (by have := HL2.out; omega) (row_alloc_base wr _ HX.out.size) (by omega) ?_)
        intro g c2 w2 hown hg hat hb1 hb2 hb3 hb4
        have HR2 := Lib.hid (rowF_app hown)
        have HX2 := Lib.hid (ex_app HX.out HR.out _ hg)
        have hlF : F.length + 1 = (F ++ [floatOfInt .f64 K]).length := by simp
        rw [hlF] at HR2 ⊢
        generalize F ++ [floatOfInt .f64 K] = F2 at *
        clear hown hg hat hb1 hb2 hb3 hb4 hlF HR HX HM hmn hmx q2 c0
        generalize S + K = S2 at *
        generalize min lo K = lo2 at *
        generalize max hi K = hi2 at *
        have q3 : (i : Int).tmod 16 = ((i % 16 : Nat) : Int) := by
          rw [Int.tmod_eq_emod_of_nonneg (by omega)]; omega
        obtain ⟨i16, hi16⟩ : ∃ j, i % 16 = j := ⟨_, rfl⟩
        have hi16l : i16 < 16 := by omega
        rw [hi16] at q3
        clear hi16
        obtain ⟨q, w3, r1, r2, r3⟩ := run_quo_any w2 0 0
        rw [quo00] at r2
        have hqn : nanB q = true := key_nan2 qn_nan r2.symm
        have HQ := Lib.hid hqn
        have HX3 := Lib.hid (HX2.out.trans r3)
        have HR3 := Lib.hid (row_chg (F := fun _ => False) HR2.out (r3.chg _) (fun _ _ h => h))
        have HL3 : Hid (F2.length ≤ 200) := Lib.hid (by have := HL1.out; omega)
        clear r2 r3 hqn
        go_upto_region 11 with fail
        go_wp2_with fail
        case roundEnd =>
          exact ⟨⟨i + 1, S2, lo2, hi2, F2, by omega, by simp, rfl, rfl, rfl, HM1.out, HR2.out, HX2.out⟩, by simp [intOf]; omega⟩
        refine (zero_any w2).mono ?_
        rintro e w' ⟨rfl, rfl⟩
        go_wp2_with fail
        refine (zero_any w2).mono ?_
        rintro e w' ⟨rfl, rfl⟩
        go_wp2_with (at_builtin; refine wpList_append_mine _ rfl (.tmp 53) (.tmp 57) 22 rfl w.heap.size 23 i0 (.float .f64 0) 1 8 Tryd.underlying22 hi0 hz0 hz1 hz2 rfl (by decide) _ _ _ rfl (HR3.out.alloc _) ⟨w3.heap.size, 0, none⟩ 1 1 [.float .f64 q] rfl rfl (one_new _ _ _) (one_cell rfl) (by have := HL3.out; unfold maxLen; omega) (by have := HL3.out; omega) (row_alloc_base w3 _ HX3.out.size) (by omega) ?_)
        intro g4 c4 w4 hown hg hat hb1 hb2 hb3 hb4
        have HR4 := Lib.hid (rowF_app hown)
        have HX4 := Lib.hid (ex_app HX3.out HR3.out _ hg)
        clear hown hg hat hb1 hb2 hb3 hb4
        go_wp2_with fail
        go_roundw
        case rel => exact ⟨i + 1, S2, lo2, hi2, F2 ++ [q], by omega, by simp, rfl, rfl, rfl, HM1.out.none HQ.out HL1.out, HR4.out, HX4.out⟩
        case measure => simp [intOf]; omega
      · have e : i = n := by omega
        subst e
        have q1 : ¬ ((i : Int) < (i : Int)) := by omega
        obtain ⟨q, k1, k2, k3⟩ := quo_int S i HN.out.1 (by have := HN.out; omega) (by omega)
        have hmean : meanW F = q := by
          unfold meanW
          rw [HM.out.sum]
          unfold quoW
          rw [k1]; rfl
        have hquo : quoW (floatOfInt .f64 S) (floatOfInt .f64 (i : Int)) = q := by
          unfold quoW
          rw [k1]; rfl
        have j1 := Lib.hid ((k3 lo).1 HM.out.lo2)
        have j2 := Lib.hid ((k3 hi).2 HM.out.hi2)
        have HK2 := Lib.hid k2
        have HME := Lib.hid hmean
        have HQU := Lib.hid hquo
        have rq := fun (w : World) => run_float_arith (P := Tryd.prog) w .quo 23 .f64 (floatOfInt .f64 S) (floatOfInt .f64 (i : Int)) q k1
        have HL200 : Hid (F.length ≤ 200) := Lib.hid (by omega)
        obtain ⟨va, vc, rfl, hF⟩ := HR.out.fs
        have HF := Lib.hid hF
        clear k2 k3 hmean hquo hF b1 b2 b3 b4
        go_wp2_with fail
        refine (mean_any vc HF.out HL200.out).mono ?_
        rintro e w2 ⟨⟨r, rfl, hr⟩, hx⟩
        rw [HME.out] at hr
        obtain ⟨y1, y2, -⟩ := kv_key HK2.out hr
        have E2 := Lib.hid (HX.out.trans hx)
        have HRK := Lib.hid hr
        have o1 := ord_key_eq HK2.out hr
        have o2 : FloatKind.f64.format.order r (floatOfInt .f64 lo) = some .gt ∨ FloatKind.f64.format.order r (floatOfInt .f64 lo) = some .eq := by
          have := j1.out
          rcases Int.lt_trichotomy (kv r) (kv (floatOfInt .f64 lo)) with c | c | c
          · omega
          · exact .inr (ord_eq y1 (int_parts lo).2.2 c)
          · exact .inl (ord_gt y1 (int_parts lo).2.2 c)
        have o3 : FloatKind.f64.format.order r (floatOfInt .f64 hi) = some .lt ∨ FloatKind.f64.format.order r (floatOfInt .f64 hi) = some .eq := by
          have := j2.out
          rcases Int.lt_trichotomy (kv r) (kv (floatOfInt .f64 hi)) with c | c | c
          · exact .inl (ord_lt y1 (int_parts hi).2.2 c)
          · exact .inr (ord_eq y1 (int_parts hi).2.2 c)
          · omega
        have HY1 := Lib.hid y1
        clear hx hr y1 y2
        rcases o2 with o2 | o2 <;> rcases o3 with o3 | o3
        all_goals
          go_wp2_with fail
          refine (told_any w2).mono ?_
          rintro e w3 ⟨rfl, hx⟩
          have E3 := Lib.hid (E2.out.trans hx)
          clear hx
          go_wp2_with fail
          refine (share_any w3 S i).mono ?_
          rintro e w4 ⟨⟨r2, rfl, hr2⟩, hx⟩
          rw [HQU.out] at hr2
          have o4 := ord_key_eq HY1.out (hr2.trans HRK.out.symm)
          have E4 := Lib.hid (E3.out.trans hx)
          clear hx hr2
          go_wp2_with fail
          go_ret
          exact ⟨rfl, E4.out⟩

end Go.Proofs.YthhgpoihkmokcaaDoor
