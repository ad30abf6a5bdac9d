/- Layer 12: StateMay, StateMany. -/
import Derived.Test.YtbdnpjbookhebaaTold12
import Derived.IntWalk
namespace Go.Proofs.Ytbdnpjbookhebaa
open Go.RowKit
set_option linter.unusedVariables false

set_option maxHeartbeats 1600000 in
theorem may_walk (fr to f t : Int) (w : World) (hf : fr.tmod 7 = f) (ht : to.tmod 7 = t) :
    Calls Try.prog 4 #[.int .i64 fr, .int .i64 to] w fun e w' => e = .returned (.bool true) ∧ Below w.heap.size w w' := by
  have k5 : mayB 5 t = false := by unfold mayB; exact decide_eq_false (by omega)
  have kf : mayB f f = false := by unfold mayB; exact decide_eq_false (by omega)
  have k3 : (mayB f 3 = false) ∨ (mayB f 3 = true ∧ f = 2) := by
    by_cases h : f = 2
    · exact .inr ⟨by unfold mayB; exact decide_eq_true (by omega), h⟩
    · exact .inl (by unfold mayB; exact decide_eq_false (by omega))
  obtain ⟨b1, hb1⟩ : ∃ b, mayB fr to = b := ⟨_, rfl⟩
  obtain ⟨b2, hb2⟩ : ∃ b, mayB f t = b := ⟨_, rfl⟩
  have M1 := Lib.hid (fun w => may_any fr to w)
  have R1 := Lib.hid (fun w => rmay_any fr to w)
  have M2 := Lib.hid (fun w => may_any f t w)
  have R2 := Lib.hid (fun w => rmay_any f t w)
  have M3 := Lib.hid (fun w => may_any 5 t w)
  have M5 := Lib.hid (fun w => may_any f f w)
  rw [hb1] at M1 R1
  rw [hb2] at M2 R2
  rw [k5] at M3
  rw [kf] at M5
  clear hb1 hb2 k5 kf
  rcases k3 with k3 | ⟨k3, h2⟩
  all_goals
    have M4 := Lib.hid (fun w => may_any f 3 w)
    rw [k3] at M4
    clear k3
    try have h2' : (f == 2) = true := by simpa using h2
    try clear h2
    go_enter Try.func4, Try.ntmps4
    go_wp2_with fail
    refine (told_any _).mono ?_
    rintro e w1 ⟨rfl, hx⟩
    have X1 : Hid (Below w.heap.size w w1) := Lib.hid hx
    clear hx
    go_wp2_with fail
    refine (M1.out _).mono ?_
    rintro e w2 ⟨rfl, hx⟩
    have X2 := Lib.hid (X1.out.trans (Below.mono hx X1.out.size))
    clear hx
    go_wp2_with fail
    refine (R1.out _).mono ?_
    rintro e w' ⟨rfl, rfl⟩
    go_wp2_with fail
    refine (M2.out _).mono ?_
    rintro e w3 ⟨rfl, hx⟩
    have X3 := Lib.hid (X2.out.trans (Below.mono hx X2.out.size))
    clear hx
    go_wp2_with fail
    refine (R2.out _).mono ?_
    rintro e w' ⟨rfl, rfl⟩
    go_wp2_with fail
    refine (M3.out _).mono ?_
    rintro e w4 ⟨rfl, hx⟩
    have X4 := Lib.hid (X3.out.trans (Below.mono hx X3.out.size))
    clear hx
    go_wp2_with fail
    refine (M4.out _).mono ?_
    rintro e w5 ⟨rfl, hx⟩
    have X5 := Lib.hid (X4.out.trans (Below.mono hx X4.out.size))
    clear hx
    go_wp2_with fail
    refine (M5.out _).mono ?_
    rintro e w6 ⟨rfl, hx⟩
    have X6 := Lib.hid (X5.out.trans (Below.mono hx X5.out.size))
    clear hx
    go_wp2_with fail
    go_ret
    exact ⟨rfl, X6.out⟩

theorem walk_StateMay (fr to : Int) (w0 : (Lit.int .i64 fr).wf = true) (w1 : (Lit.int .i64 to).wf = true) (w : World) :
    Calls Try.prog 4 #[.int .i64 fr, .int .i64 to] w fun e w' => e = .returned (.bool true) ∧ Below w.heap.size w w' := may_walk fr to _ _ w rfl rfl

/-- The states behind n beginnings, every so many of them dead. -/
def manyL (e n : Nat) : List Nat := (List.range n).map fun j => if j % e = 0 then 5 else 1
theorem many_len (e n : Nat) : (manyL e n).length = n := by simp [manyL]
theorem many_succ (e n : Nat) : manyL e (n + 1) = manyL e n ++ [if n % e = 0 then 5 else 1] := by simp [manyL, List.range_succ]
theorem many_count (e n : Nat) (he : 0 < e) : (manyL e n).count 5 = (n + e - 1) / e := by
  induction n with
  | zero => simp [manyL]; rw [Nat.div_eq_of_lt (by omega)]
  | succ n ih =>
    rw [many_succ, List.count_append, ih]
    have h1 : n + 1 + e - 1 = (n + e - 1) + 1 := by omega
    rw [h1, Nat.succ_div]
    have h2 : n + e - 1 + 1 = n + e := by omega
    rw [h2]
    congr 1
    by_cases h : n % e = 0
    · have : e ∣ n + e := Nat.dvd_add (Nat.dvd_of_mod_eq_zero h) (Nat.dvd_refl e)
      simp [h, this]
    · have : ¬ e ∣ n + e := by
        intro hd
        exact h (Nat.mod_eq_zero_of_dvd ((Nat.dvd_add_left (Nat.dvd_refl e)).1 hd))
      simp [h, this]
theorem last_get {l : List Nat} {i : Nat} (h : l.length = i) (x : Nat) : (l ++ [x]).getD i 0 = x := by subst h; simp
theorem set_last (l : List Nat) (x y : Nat) : (l ++ [x]).set l.length y = l ++ [y] := by simp

set_option maxRecDepth 10000 in
set_option maxHeartbeats 6400000 in
theorem many_walk (n every : Int) (w : World) :
    Calls Try.prog 5 #[.int .i64 n, .int .i64 every] w fun e w' => e = .returned (.bool true) ∧ Below w.heap.size w w' := by
  obtain ⟨r, hr⟩ : ∃ r, (IntKind.u64.wrap n).tmod 11 = r := ⟨_, rfl⟩
  obtain ⟨r1, r2⟩ := umod_bd n 11 (by omega)
  rw [hr] at r1 r2
  obtain ⟨q, hq⟩ : ∃ r, (IntKind.u64.wrap every).tmod 9 = r := ⟨_, rfl⟩
  obtain ⟨q1, q2⟩ := umod_bd every 9 (by omega)
  rw [hq] at q1 q2
  obtain ⟨kk, hk⟩ : ∃ k : Nat, 1020 + r = (k : Int) := ⟨(1020 + r).toNat, by omega⟩
  obtain ⟨ee, he⟩ : ∃ k : Nat, 1 + q = (k : Int) := ⟨(1 + q).toNat, by omega⟩
  have kb : 1020 ≤ kk ∧ kk ≤ 1030 := by omega
  have eb : 1 ≤ ee ∧ ee ≤ 9 := by omega
  clear r1 r2 q1 q2
  obtain ⟨k1, k2⟩ := kb
  obtain ⟨e1, e2⟩ := eb
  go_enter Try.func5, Try.ntmps5
  go_wp2_with fail
  refine (new_any _).mono ?_
  rintro e w1 ⟨rfl, h1, hx1, -⟩
  have H1 := Lib.hid h1
  have X1 : Hid (Below w.heap.size w w1) := Lib.hid hx1
  clear h1 hx1
  go_wp2_with fail
  go_loopw [8] (fun iv wr => ∃ i : Nat, i ≤ kk ∧ iv = .int .i64 i ∧ (∃ v, St wr w.heap.size v (manyL ee (min i 1024))) ∧ Below w.heap.size w wr) (fun iv _ => kk - (intOf iv).toNat)
  case atStart => exact ⟨0, by omega, rfl, ⟨_, H1.out⟩, X1.out⟩
  case round =>
    obtain ⟨i, hi, rfl, ⟨v, hst⟩, hb⟩ := hrel
    have H := Lib.hid hst
    have X := Lib.hid hb
    clear hst hb H1 X1
    by_cases hik : i < kk
    · by_cases hi4 : i < 1024
      · have H' : Hid (St wr w.heap.size v (manyL ee i)) := by
          have := H.out
          rw [Nat.min_eq_left (by omega)] at this
          exact Lib.hid this
        have L := Lib.hid (many_len ee i)
        go_wp2_with fail
        have hsp := spawn_any H'.out (by rw [L.out]; exact hi4)
        rw [L.out] at hsp
        refine hsp.mono ?_
        rintro e w2 ⟨rfl, hn⟩
        have X2 := Lib.hid (X.out.trans (Nxt.below H'.out hn))
        obtain ⟨v2, h2, -, -⟩ := hn
        have H2 := Lib.hid h2
        clear h2 hsp
        by_cases hm : i % ee = 0
        · have hm' : ((i : Int) % (ee : Int) == 0) = true := by simp; omega
          have hm5 := Lib.hid hm
          clear hm
          go_wp2_with fail
          refine (move_yes H2.out i (by rw [List.length_append, L.out]; simp) 1 2 (last_get L.out _) (by decide)).mono ?_
          rintro e w3 ⟨rfl, hn⟩
          have X3 := Lib.hid (X2.out.trans (Nxt.below H2.out hn))
          obtain ⟨v3, h3, -, -⟩ := hn
          have H3 : Hid (St w3 w.heap.size v3 (manyL ee i ++ [2])) := by
            have e3 : (manyL ee i ++ [1]).set i 2 = manyL ee i ++ [2] := by
              have := set_last (manyL ee i) 1 2
              rw [L.out] at this; exact this
            rw [e3] at h3
            exact Lib.hid h3
          clear h3
          go_wp2_with fail
          refine (move_yes H3.out i (by rw [List.length_append, L.out]; simp) 2 5 (last_get L.out _) (by decide)).mono ?_
          rintro e w4 ⟨rfl, hn⟩
          have X4 := Lib.hid (X3.out.trans (Nxt.below H3.out hn))
          obtain ⟨v4, h4, -, -⟩ := hn
          have H4 : Hid (St w4 w.heap.size v4 (manyL ee (i + 1))) := by
            have e3 : (manyL ee i ++ [2]).set i 5 = manyL ee i ++ [5] := by
              have := set_last (manyL ee i) 2 5
              rw [L.out] at this; exact this
            rw [e3] at h4
            rw [many_succ, if_pos hm5.out]
            exact Lib.hid h4
          clear h4
          go_wp2_with fail
          go_roundw
          case rel => exact ⟨i + 1, by omega, by go_num, ⟨v4, by rw [Nat.min_eq_left (by omega)]; exact H4.out⟩, X4.out⟩
          case measure => simp [intOf]; omega
        · have hm' : ((i : Int) % (ee : Int) == 0) = false := by simp; omega
          have hm5 := Lib.hid hm
          clear hm
          go_wp2_with fail
          go_roundw
          case rel => exact ⟨i + 1, by omega, by go_num, ⟨v2, by rw [Nat.min_eq_left (by omega), many_succ, if_neg hm5.out]; exact H2.out⟩, X2.out⟩
          case measure => simp [intOf]; omega
      · have H' : Hid (St wr w.heap.size v (manyL ee 1024)) := by
          have := H.out
          rw [Nat.min_eq_right (by omega)] at this
          exact Lib.hid this
        go_wp2_with fail
        refine (spawn_full H'.out (by rw [many_len]; omega)).mono ?_
        rintro e w' ⟨rfl, rfl⟩
        go_wp2_with fail
        go_roundw
        case rel => exact ⟨i + 1, by omega, by go_num, ⟨v, by rw [Nat.min_eq_right (by omega)]; exact H'.out⟩, X.out⟩
        case measure => simp [intOf]; omega
    · obtain rfl : i = kk := by omega
      have L := Lib.hid (many_len ee (min i 1024))
      have C := Lib.hid (many_count ee (min i 1024) (by omega))
      go_wp2_with fail
      refine (spawn_nil _).mono ?_
      rintro e w' ⟨rfl, rfl⟩
      have hne : ((ee : Int) == 0) = false := by simp; omega
      obtain ⟨m, hm⟩ : ∃ m, min i 1024 = m := ⟨_, rfl⟩
      have m1 : 1020 ≤ m := by omega
      have m2 : m ≤ 1024 := by omega
      have hmin : (if (1024 : Int) < (i : Int) then (1024 : Int) else (i : Int)) = (m : Int) := by
        by_cases h : 1024 < i
        · rw [if_pos (by omega)]; omega
        · rw [if_neg (by omega)]; omega
      rw [hm] at L C
      obtain ⟨D, hD⟩ : ∃ D, (m + ee - 1) / ee = D := ⟨_, rfl⟩
      have hD2 : D ≤ 2000 := by rw [← hD]; exact Nat.le_trans (Nat.div_le_self _ _) (by omega)
      have hq : ((m : Int) + (ee : Int) - 1).tdiv (ee : Int) = (D : Int) := by
        rw [Int.tdiv_eq_ediv_of_nonneg (by omega), ← hD]
        rw [Int.natCast_ediv]
        congr 1
        omega
      have hw1 : IntKind.i64.wrap ((m : Int) + (ee : Int)) = (m : Int) + (ee : Int) := IntWalk.i64_in _ (by omega)
      have hw2 : IntKind.i64.wrap ((m : Int) + (ee : Int) - 1) = (m : Int) + (ee : Int) - 1 := IntWalk.i64_in _ (by omega)
      have hw3 : IntKind.i64.wrap (D : Int) = (D : Int) := IntWalk.i64_in _ (by omega)
      rw [hD] at C
      have HH : Hid (St wr w.heap.size v (manyL ee m)) := by
        have := H.out
        rw [hm] at this
        exact Lib.hid this
      have KL : Hid (∀ x : Out wr, Calls Try.prog 12 #[.pointer (some ⟨w.heap.size, 0, none⟩)] x.w fun e w' => e = .returned (.int .i64 (m : Int)) ∧ x.w = w') :=
        Lib.hid fun x => by have := len_any (HH.out.ex x.2); rw [L.out] at this; exact this
      have KC : Hid (∀ x : Out wr, Calls Try.prog 11 #[.pointer (some ⟨w.heap.size, 0, none⟩), .int .i64 5] x.w fun e w' => e = .returned (.int .i64 (D : Int)) ∧ x.w = w') :=
        Lib.hid fun x => by have := count_any (HH.out.ex x.2) 5 (by omega) (by omega); rw [C.out] at this; exact this
      clear hD hm hk H
      go_wp2_with fail
      refine wp_region_ex (by kernel_rfl) (by kernel_rfl) ?_
      try simp only [List.append]
      repeat (go_big_quiet_step (first
        | (go_at_call 14; exact quiet_ex (told_any _))
        | (go_at_call 12; first | (with_reducible exact quiet_eq (KL.out _)) | (with_reducible exact quiet_eq (len_nil _)))
        | (go_at_call 11; exact quiet_eq (KC.out _))
        | (go_at_call 13; exact quiet_eq (of_nil _))))
      refine wpQuiet_nil ?_
      rintro w5 ⟨⟨wz, hw⟩, rfl⟩
      have X5 := Lib.hid (X.out.trans (Below.mono hw X.out.size))
      clear hw
      go_wp2_with fail
      go_ret
      exact ⟨rfl, X5.out⟩

theorem walk_StateMany (n every : Int) (w0 : (Lit.int .i64 n).wf = true) (w1 : (Lit.int .i64 every).wf = true) (w : World) :
    Calls Try.prog 5 #[.int .i64 n, .int .i64 every] w fun e w' => e = .returned (.bool true) ∧ Below w.heap.size w w' := many_walk n every w

end Go.Proofs.Ytbdnpjbookhebaa
