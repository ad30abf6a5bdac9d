/- RateNumbers. -/
import Derived.Test.YthhgpoihkmokcaaDoorRefW31
import Derived.Test.YthhgpoihkmokcaaDoorFlts31
import Derived.Test.YthhgpoihkmokcaaDoorOrder31
namespace Go.Proofs.YthhgpoihkmokcaaDoor
open Go.RowKit Ieee
set_option linter.unusedVariables false

theorem numT_bd {p : Nat} (hp : p ≤ 9218868437227405312) (hlt : kv p < kv c50) : 0 ≤ numT p ∧ numT p ≤ 1125899906842624 := by
  obtain ⟨-, -, -, -, -, -, h1, h2⟩ := part_is hp hlt
  unfold numT
  split <;> omega
theorem pW_le {x : Nat} (hx : rg x < 9218868437227405312) : pW x ≤ 9218868437227405312 :=
  (pW_is (a := rg x) hx (by unfold rg; omega) (by have := rg_lt x; unfold sg; simp; omega)).2.2

/-- The bytes of a float's number. -/
def numL (x : Nat) : ByteArray := if kv (pW x) < kv c50 ∧ rg x < 9218868437227405312 then ⟨(Lib.itoa (numT (pW x))).toArray⟩ else ⟨#[]⟩
theorem numL_size (x : Nat) : (numL x).size ≤ 100 := by
  unfold numL
  split
  · rename_i h
    obtain ⟨h1, h2⟩ := numT_bd (pW_le h.2) h.1
    have := Lib.itoa_length_le (numT (pW x)) (by omega) (by omega)
    show (Lib.itoa (numT (pW x))).toArray.size ≤ 100
    rw [List.size_toArray]
    omega
  · decide
theorem numL_fmt {W w : World} (h : Lib.TabIs Tryd.prog W "internal/strconv.uint64pow10" .u64 Lib.pow10Tab) (k : Ex W w) (x : Nat) (h0 : nanB x = false) (h1 : rg x < 9218868437227405312) (h2 : kv (pW x) < kv c50) :
    Calls Tryd.prog 34 #[.int .i64 (numT (pW x)), .int .i64 10] w fun e w' => e = .returned (.string (numL x)) ∧ Ex w w' := by
  unfold numL
  rw [if_pos ⟨h2, h1⟩]
  obtain ⟨h3, h4⟩ := numT_bd (pW_le h1) h2
  exact fmt_any h k _ h3 h4

set_option maxRecDepth 20000 in
set_option maxHeartbeats 6400000 in
theorem walk_RateNumbers {a : Option Addr} {n : Nat} (cap : Nat) {l : List Nat} (x y : Nat) (k all : Int) (w : World) (h : Fs w a n l) (hT : Lib.TabIs Tryd.prog w "internal/strconv.uint64pow10" .u64 Lib.pow10Tab) :
    Calls Tryd.prog 3 #[.slice a n cap, .float .f64 x, .float .f64 y, .int .i64 k, .int .i64 all] w fun e w' => e = .returned (.bool true) ∧ Ex w w' := by
  by_cases hn : n ≤ 60
  · have H := Lib.hid h
    have HT := Lib.hid hT
    have i1 := Lib.hid (few_any w a n cap true (decide_eq_true hn))
    have N200 : Hid (n ≤ 200) := Lib.hid (by omega)
    clear h hn hT
    go_enter Tryd.func3, Tryd.ntmps3
    go_wp2_with fail
    refine i1.out.mono ?_
    rintro e w' ⟨rfl, rfl⟩
    go_wp2_with fail
    refine (told_any w).mono ?_
    rintro e w1 ⟨rfl, hx⟩
    have E1 := Lib.hid hx
    clear hx
    go_wp2_with fail
    refine (share_any w1 k all).mono ?_
    rintro e w2 ⟨⟨s1, rfl, hs1⟩, hx⟩
    have E2 := Lib.hid (E1.out.trans hx)
    have S1 := Lib.hid hs1
    clear hx hs1
    go_wp2_with fail
    refine (rshare_any w2 k all).mono ?_
    rintro e w3 ⟨⟨s2, rfl, hs2⟩, hx⟩
    have E3 := Lib.hid (E2.out.trans hx)
    have S2 := Lib.hid (fun w => same_any w s1 s2 true (decide_eq_true (S1.out.trans hs2.symm)))
    clear hx hs2
    go_wp2_with fail
    refine (S2.out w3).mono ?_
    rintro e w' ⟨rfl, rfl⟩
    go_wp2_with fail
    refine (mean_any cap (H.out.ex E3.out) N200.out).mono ?_
    rintro e w4 ⟨⟨m1, rfl, hs1⟩, hx⟩
    have E4 := Lib.hid (E3.out.trans hx)
    have M1 := Lib.hid hs1
    clear hx hs1
    go_wp2_with fail
    refine (rmean_any cap (H.out.ex E4.out) N200.out).mono ?_
    rintro e w5 ⟨⟨m2, rfl, hs2⟩, hx⟩
    have E5 := Lib.hid (E4.out.trans hx)
    have M2 := Lib.hid (fun w => same_any w m1 m2 true (decide_eq_true (M1.out.trans hs2.symm)))
    clear hx hs2
    go_wp2_with fail
    refine (M2.out w5).mono ?_
    rintro e w' ⟨rfl, rfl⟩
    go_wp2_with fail
    refine (least_any w5 x y _ rfl).mono ?_
    rintro e w' ⟨rfl, rfl⟩
    have L2 := Lib.hid (fun w => same_any w (leastW x y) (rleastW x y) true (decide_eq_true (rleast_key x y).symm))
    generalize leastW x y = q1 at *
    go_wp2_with fail
    refine (rleast_any w5 x y _ rfl).mono ?_
    rintro e w' ⟨rfl, rfl⟩
    generalize rleastW x y = q2 at *
    go_wp2_with fail
    refine (L2.out w5).mono ?_
    rintro e w' ⟨rfl, rfl⟩
    obtain ⟨r, hr⟩ : ∃ r, textL x (numL x) = r := ⟨_, rfl⟩
    have HR := Lib.hid hr
    clear hr
    go_wp2_with fail
    refine (text_any w5 x (numL x) (numL_size x) r HR.out (numL_fmt HT.out E5.out x)).mono ?_
    rintro e w6 ⟨rfl, hx⟩
    have E6 := Lib.hid (E5.out.trans hx)
    clear hx
    go_wp2_with fail
    refine (rtext_any w6 x (numL x) (numL_size x) r HR.out (numL_fmt HT.out E6.out x)).mono ?_
    rintro e w7 ⟨rfl, hx⟩
    have E7 := Lib.hid (E6.out.trans hx)
    clear hx
    go_wp2_with fail
    go_ret
    exact ⟨rfl, E7.out⟩
  · have i1 := Lib.hid (few_any w a n cap false (decide_eq_false hn))
    clear h hn hT
    go_enter Tryd.func3, Tryd.ntmps3
    go_wp2_with fail
    refine i1.out.mono ?_
    rintro e w' ⟨rfl, rfl⟩
    go_wp2_with fail
    refine (told_any w).mono ?_
    rintro e w4 ⟨rfl, hx⟩
    go_wp2_with fail
    go_ret
    exact ⟨rfl, hx⟩

end Go.Proofs.YthhgpoihkmokcaaDoor
