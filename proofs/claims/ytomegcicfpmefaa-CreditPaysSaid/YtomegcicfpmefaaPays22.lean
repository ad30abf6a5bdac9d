/- CreditPays: what is owed, once it is scanned, lets one word more be allocated; one word of scanning less does not. -/
import Derived.Test.YtomegcicfpmefaaOwed22
import Derived.Test.YtomegcicfpmefaaFixE
namespace Go.Proofs.Ytomegcicfpmefaa
open Go.RowKit Go.Maps
set_option linter.unusedVariables false

/-- What is owed. -/
def OwP (r s need o : Int) : Prop := (o = 0 ∧ enoughB r s need 0 = true) ∨ (1 ≤ o ∧ o ≤ 9223372036854775807 ∧ enoughB r s need (o - 1) = false ∧ enoughB r s need o = true)

theorem enough_mono {r s need x y : Int} (hr : 0 < r) (h : x ≤ y) (hx : enoughB r s need x = true) : enoughB r s need y = true := by
  unfold enoughB at *
  have h1 := of_decide_eq_true hx
  have h2 := worth_all (r := r) hr (add_mono (s := s) h)
  exact decide_eq_true (by omega)
theorem owp_one {r s need o o' : Int} (hr : 0 < r) (h : OwP r s need o) (k : OwP r s need o') : o = o' := by
  have key : ∀ a b : Int, OwP r s need a → OwP r s need b → ¬ a < b := by
    intro a b ha hb hlt
    rcases hb with ⟨rfl, hb⟩ | ⟨b1, b2, b3, b4⟩
    · rcases ha with ⟨rfl, _⟩ | ⟨a1, _⟩ <;> omega
    · have : enoughB r s need a = true := by
        rcases ha with ⟨rfl, h⟩ | ⟨_, _, _, h⟩ <;> exact h
      have := enough_mono hr (show a ≤ b - 1 by omega) this
      rw [b3] at this; cases this
  have h1 := key o o' h k
  have h2 := key o' o k h
  omega

theorem owed_is {w : World} {b mb n : Nat} {r bank a s need o : Int} {f : Int → Int × Int} (h : Cr w b mb r bank f n) (g : Int) (hg : (Lit.int .i64 g).wf = true) (hr : 0 < r) (hf : f g = (a, s)) (ha : 64 < a) (hneed : fAdd (fSub a 64) 1 = need)
    (hP : OwP r s need o) :
    Calls Try.prog 14 #[.pointer (some ⟨b, 0, none⟩), .int .i64 g] w fun e w' => e = .returned (.int .i64 o) ∧ Ex w w' := by
  have hmax : enoughB r s need 9223372036854775807 = true := by
    rcases hP with ⟨rfl, h1⟩ | ⟨o1, o2, _, h1⟩
    · exact enough_mono hr (by omega) h1
    · exact enough_mono hr o2 h1
  refine (owed_search h g hg hr hf ha hneed hmax).mono fun e w' ⟨hx, he⟩ => ?_
  rcases he with ⟨rfl, h1⟩ | ⟨o', rfl, h1, h2, h3, h4⟩
  · rw [owp_one hr hP (.inl ⟨rfl, h1⟩)]; exact ⟨rfl, hx⟩
  · rw [owp_one hr hP (.inr ⟨h1, h2, h3, h4⟩)]; exact ⟨rfl, hx⟩

set_option maxHeartbeats 1600000 in
/-- What is owed is taken of the bank. -/
theorem steal_some {w0 w : World} {b mb n : Nat} {r bank a s o c : Int} {f : Int → Int × Int} (h : Own1 w0 w b mb r bank f n) (g : Int) (hg : (Lit.int .i64 g).wf = true) (hf : f g = (a, s)) (o1 : 1 ≤ o) (o2 : o ≤ bank) (hn : n ≤ 1000000) (hc : fAdd s o = c)
    (KO : Hid (∀ x : Out w, Calls Try.prog 14 #[.pointer (some ⟨b, 0, none⟩), .int .i64 g] x.w fun e w' => e = .returned (.int .i64 o) ∧ Ex x.w w')) :
    Calls Try.prog 15 #[.pointer (some ⟨b, 0, none⟩), .int .i64 g] w fun e w' => e = .returned (.int .i64 o) ∧ Own1 w0 w' b mb r (bank - o) (putF f g (a, c)) (n + 1) := by
  have xc : ∀ x : Out w, x.w.cell? ⟨b, 2, none⟩ = some (.int .i64 bank) := h.cr.box.out 2
  have H := Lib.hid h
  obtain ⟨b1, b2⟩ := h.cr.bb
  have hm : min o bank = o := by omega
  have HF := Lib.hid hf
  have HC := Lib.hid hc
  clear h hf hc
  go_enter Try.func15, Try.ntmps15
  go_wp2_with fail
  refine wp_region_ex (by kernel_rfl) (by kernel_rfl) ?_
  try simp only [List.append]
  repeat (go_big_quiet_step ((go_at_call 14; exact quiet_ex (KO.out _))))
  refine wpQuiet_nil ?_
  rintro w4 ⟨⟨wz, hw⟩, rfl⟩
  have c2 : w4.cell? ⟨b, 2, none⟩ = some (.int .i64 bank) := xc ⟨w4, hw⟩
  have f2 := (H.out.cr.box.ex hw).soft 2
  have H4 := Lib.hid (H.out.ex hw)
  clear hw xc hm
  go_wp2_with fail
  have H5 : Own1 w0 (w4.setCell ⟨b, 2, none⟩ (.int .i64 (bank - o))) b mb r (bank - o) f n :=
    H4.out.nxt (H4.out.cr.banked (bank - o) ⟨by omega, by omega⟩) (Chg.cell _ _ _ (.inl rfl))
  refine (oscan H5 (g := g) HF.out hg (by omega) (by omega) hn HC.out).mono ?_
  rintro e w5 ⟨rfl, h6, -⟩
  have H6 := Lib.hid h6
  clear h6 H5 H4 c2 f2
  go_wp2_with fail
  go_ret
  exact ⟨rfl, H6.out⟩

/-- What so many words are worth, up to some millions; 65 words more are worth one more. -/
theorem worth_big {r s : Int} (r1 : 131072 ≤ r) (r2 : r < 67239936) (s1 : 0 ≤ s) (s2 : s ≤ 100000000) : worthV r s = s * 1099511627776 / r / 1048576 ∧ 0 ≤ worthV r s ∧ worthV r s ≤ 800000000 := by
  have e1 : fWhole s = s * 1048576 := clamp_in (by omega) (by omega)
  have h0 : 0 ≤ s * 1099511627776 := by omega
  have q0 : 0 ≤ s * 1099511627776 / r := Int.ediv_nonneg h0 (by omega)
  have q1 : s * 1099511627776 / r ≤ 838860800000000 := by
    have : s * 1099511627776 ≤ 838860800000000 * r := by
      have : 838860800000000 * 131072 ≤ 838860800000000 * r := Int.mul_le_mul_of_nonneg_left r1 (by omega)
      omega
    exact Int.ediv_le_of_le_mul (by omega) this
  have e2 : fDiv (s * 1048576) r = s * 1099511627776 / r := by
    unfold fDiv
    rw [if_neg (by omega), floorDiv_pos (by omega)]
    have : s * 1048576 * 1048576 = s * 1099511627776 := by rw [Int.mul_assoc]; rfl
    rw [this]
    exact clamp_in (by omega) (by omega)
  have e3 : worthV r s = s * 1099511627776 / r / 1048576 := by unfold worthV fInt; rw [e1, e2]
  exact ⟨e3, by rw [e3]; omega, by rw [e3]; omega⟩

theorem worth_step {r s : Int} (r1 : 131072 ≤ r) (r2 : r < 67239936) (s1 : 0 ≤ s) (s2 : s ≤ 90000000) : worthV r s + 1 ≤ worthV r (s + 65) := by
  rw [(worth_big r1 r2 s1 (by omega)).1, (worth_big r1 r2 (show 0 ≤ s + 65 by omega) (by omega)).1]
  have h1 : s * 1099511627776 / r + 1048576 ≤ (s + 65) * 1099511627776 / r := by
    apply Int.le_ediv_of_mul_le (by omega)
    have h2 := Int.ediv_mul_le (s * 1099511627776) (show r ≠ 0 by omega)
    rw [Int.add_mul]
    omega
  omega

/-- 70 words for each word are enough. -/
theorem worth_70 {r k : Int} (r1 : 131072 ≤ r) (r2 : r < 67239936) (k1 : 65 ≤ k) (k2 : k ≤ 100000) : k ≤ worthV r (70 * k) := by
  rw [(worth_big r1 r2 (show 0 ≤ 70 * k by omega) (by omega)).1]
  have h1 : k * 1048576 ≤ 70 * k * 1099511627776 / r := by
    apply Int.le_ediv_of_mul_le (by omega)
    have : k * 1048576 * r ≤ k * 1048576 * 67239936 := Int.mul_le_mul_of_nonneg_left (by omega) (by omega)
    omega
  omega

theorem and_small (x : Int) (k : Nat) (hk : k ≤ 62) : 0 ≤ bits .and .i64 x ((2 ^ k - 1 : Nat) : Int) ∧ bits .and .i64 x ((2 ^ k - 1 : Nat) : Int) < ((2 ^ k : Nat) : Int) := by
  rw [and_mask x k hk]
  have : (0 : Int) < ((2 ^ k : Nat) : Int) := by have := Nat.two_pow_pos k; omega
  exact ⟨Int.emod_nonneg _ (by omega), Int.emod_lt_of_pos _ this⟩

end Go.Proofs.Ytomegcicfpmefaa
