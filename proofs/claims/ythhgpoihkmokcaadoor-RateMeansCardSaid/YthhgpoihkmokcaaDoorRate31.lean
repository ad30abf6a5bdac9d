/- Package rate: less, Least; the document's Less, Least, Same: for all floats. -/
import Derived.Test.YthhgpoihkmokcaaDoorFOrd31
import Derived.Test.YthhgpoihkmokcaaDoorApp
import Derived.Laws.Externs
namespace Go.Proofs.YthhgpoihkmokcaaDoor
open Go.RowKit Ieee
set_option linter.unusedVariables false

theorem sg_wrap (x : Nat) : decide (wrap64 (x : Int) < 0) = sg x := by
  rw [Bool.eq_iff_iff]
  unfold sg wrap64
  simp only [decide_eq_true_eq, beq_iff_eq]
  omega

theorem bits_ext (w : World) (x : Nat) : (callFunc 38 #[.float .f64 x]).run Tryd.prog w = .ok (.value (.int .u64 (x : Int))) w := by kernel_rfl

theorem signbit_any (w : World) (x : Nat) (s : Bool) (hs : sg x = s) : Calls Tryd.prog 31 #[.float .f64 x] w fun e w' => e = .returned (.bool s) ∧ w = w' := by
  have hb := fun w => bits_ext w x
  have e : decide (wrap64 (x : Int) < 0) = s := (sg_wrap x).trans hs
  clear hs
  subst e
  go_enter Tryd.func31, Tryd.ntmps31
  go_wp2
  go_ret
  exact ⟨rfl, rfl⟩

theorem less_any (w : World) (x y : Nat) (z : Bool) (hz : decide (key x < key y) = z) : Calls Tryd.prog 29 #[.float .f64 x, .float .f64 y] w fun e w' => e = .returned (.bool z) ∧ w = w' := by
  cases hx : nanB x <;> cases hy : nanB y
  · have o1 := ord_self hx
    have o2 := ord_self hy
    rcases Int.lt_trichotomy (kv x) (kv y) with h | h | h
    · have o3 := ord_lt hx hy h
      have hk := key_lt hx hy h
      have e : z = true := by rw [← hz]; exact decide_eq_true hk
      subst e
      clear hk hz h
      go_enter Tryd.func29, Tryd.ntmps29
      go_wp2
      go_ret
      exact ⟨rfl, rfl⟩
    · have o3 := ord_eq hx hy h
      cases s1 : sg x <;> cases s2 : sg y
      · have hk := key_eq hx hy h (s1.trans s2.symm)
        have e : z = false := by rw [← hz, hk]; simp
        subst e
        clear hk hz h
        go_enter Tryd.func29, Tryd.ntmps29
        go_wp2_with fail
        refine (signbit_any w x _ s1).mono ?_
        rintro e w' ⟨rfl, rfl⟩
        go_wp2
        go_ret
        exact ⟨rfl, rfl⟩
      · have hk := key_zero hy hx h.symm s2 s1
        have e : z = false := by rw [← hz]; simp; omega
        subst e
        clear hk hz h
        go_enter Tryd.func29, Tryd.ntmps29
        go_wp2_with fail
        refine (signbit_any w x _ s1).mono ?_
        rintro e w' ⟨rfl, rfl⟩
        go_wp2
        go_ret
        exact ⟨rfl, rfl⟩
      · have hk := key_zero hx hy h s1 s2
        have e : z = true := by rw [← hz]; exact decide_eq_true hk
        subst e
        clear hk hz h
        go_enter Tryd.func29, Tryd.ntmps29
        go_wp2_with fail
        refine (signbit_any w x _ s1).mono ?_
        rintro e w' ⟨rfl, rfl⟩
        go_wp2_with fail
        refine (signbit_any w y _ s2).mono ?_
        rintro e w' ⟨rfl, rfl⟩
        go_wp2
        go_ret
        exact ⟨rfl, rfl⟩
      · have hk := key_eq hx hy h (s1.trans s2.symm)
        have e : z = false := by rw [← hz, hk]; simp
        subst e
        clear hk hz h
        go_enter Tryd.func29, Tryd.ntmps29
        go_wp2_with fail
        refine (signbit_any w x _ s1).mono ?_
        rintro e w' ⟨rfl, rfl⟩
        go_wp2_with fail
        refine (signbit_any w y _ s2).mono ?_
        rintro e w' ⟨rfl, rfl⟩
        go_wp2
        go_ret
        exact ⟨rfl, rfl⟩
    · have o3 := ord_gt hx hy h
      have hk := key_lt hy hx h
      have e : z = false := by rw [← hz]; simp; omega
      subst e
      clear hk hz h
      go_enter Tryd.func29, Tryd.ntmps29
      go_wp2
      go_ret
      exact ⟨rfl, rfl⟩
  · have o1 := ord_self hx
    have o2 := ord_nanl (y := y) hy
    have e : z = false := by rw [← hz, key_nan hy]; have := key_num hx; simp; omega
    subst e
    clear hz
    go_enter Tryd.func29, Tryd.ntmps29
    go_wp2
    go_ret
    exact ⟨rfl, rfl⟩
  · have o1 := ord_nanl (y := x) hx
    have o2 := ord_self hy
    have e : z = true := by rw [← hz, key_nan hx]; have := key_num hy; simp; omega
    subst e
    clear hz
    go_enter Tryd.func29, Tryd.ntmps29
    go_wp2
    go_ret
    exact ⟨rfl, rfl⟩
  · have o1 := ord_nanl (y := x) hx
    have o2 := ord_nanl (y := y) hy
    have e : z = false := by rw [← hz, key_nan hx, key_nan hy]; simp
    subst e
    clear hz
    go_enter Tryd.func29, Tryd.ntmps29
    go_wp2
    go_ret
    exact ⟨rfl, rfl⟩

/-- The lesser one that is a number. -/
def leastW (x y : Nat) : Nat := if nanB y = true ∨ (nanB x = false ∧ key x < key y) then x else y
theorem least_any (w : World) (x y r : Nat) (hr : leastW x y = r) : Calls Tryd.prog 17 #[.float .f64 x, .float .f64 y] w fun e w' => e = .returned (.float .f64 r) ∧ w = w' := by
  unfold leastW at hr
  cases hy : nanB y
  · have o2 := ord_self hy
    cases hx : nanB x
    · have o1 := ord_self hx
      by_cases h : key x < key y
      · rw [if_pos (.inr ⟨hx, h⟩)] at hr
        subst hr
        go_enter Tryd.func17, Tryd.ntmps17
        go_wp2_with fail
        refine (less_any w x y true (decide_eq_true h)).mono ?_
        rintro e w' ⟨rfl, rfl⟩
        go_wp2
        go_ret
        exact ⟨rfl, rfl⟩
      · rw [if_neg (by simp [hy, h])] at hr
        subst hr
        have hd := Lib.hid (less_any w x y false (decide_eq_false h))
        clear h
        go_enter Tryd.func17, Tryd.ntmps17
        go_wp2_with fail
        refine hd.out.mono ?_
        rintro e w' ⟨rfl, rfl⟩
        go_wp2
        go_ret
        exact ⟨rfl, rfl⟩
    · have o1 := ord_nanl (y := x) hx
      rw [if_neg (by simp [hy, hx])] at hr
      subst hr
      go_enter Tryd.func17, Tryd.ntmps17
      go_wp2
      go_ret
      exact ⟨rfl, rfl⟩
  · have o2 := ord_nanl (y := y) hy
    rw [if_pos (.inl hy)] at hr
    subst hr
    go_enter Tryd.func17, Tryd.ntmps17
    go_wp2
    go_ret
    exact ⟨rfl, rfl⟩

end Go.Proofs.YthhgpoihkmokcaaDoor
