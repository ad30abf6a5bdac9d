/- Layer 22: the law's own few examples. -/
import Derived.Test.YtomegcicfpmefaaCred22S
namespace Go.Proofs.Ytomegcicfpmefaa
open Go.RowKit Go.Maps
set_option linter.unusedVariables false

/-- A credit of the call's own, at which a goroutine's sums are known. -/
structure Own1 (w0 w : World) (b mb : Nat) (r bank : Int) (f : Int → Int × Int) (n : Nat) : Prop where
  cr : Cr w b mb r bank f n
  below : Below w0.heap.size w0 w
  hb : w0.heap.size ≤ b
  hm : w0.heap.size ≤ mb

theorem Own1.ex {w0 w w' : World} {b mb n : Nat} {r bank : Int} {f : Int → Int × Int} (h : Own1 w0 w b mb r bank f n) (k : Ex w w') : Own1 w0 w' b mb r bank f n :=
  ⟨h.cr.ex k, h.below.trans (Below.mono k h.below.size), h.hb, h.hm⟩
theorem Own1.nxt {w0 w w' : World} {b mb n n' : Nat} {r bank bank' : Int} {f f' : Int → Int × Int} (h : Own1 w0 w b mb r bank f n) (h1 : Cr w' b mb r bank' f' n') (h2 : Chg (fun k => k = b ∨ k = mb) w w') : Own1 w0 w' b mb r bank' f' n' :=
  ⟨h1, h.below.trans (h2.below h.below.size (fun i hi => by have := h.hb; have := h.hm; omega)), h.hb, h.hm⟩

theorem put_same (f : Int → Int × Int) (g : Int) (p : Int × Int) : putF f g p g = p := by simp [putF]
theorem put_other (f : Int → Int × Int) {g x : Int} (p : Int × Int) (h : x ≠ g) : putF f g p x = f x := by simp [putF, h]

theorem oalloc {w0 w : World} {b mb n : Nat} {r bank a s x c : Int} {f : Int → Int × Int} (h : Own1 w0 w b mb r bank f n) {g : Int} (hf : f g = (a, s)) (hg : (Lit.int .i64 g).wf = true) (hx : 0 ≤ x) (hx2 : x ≤ 9223372036854775807) (hn : n ≤ 1000000)
    (hc : fAdd a x = c) (hyes : r ≤ 0 ∨ (0 < r ∧ c ≤ fAdd 64 (worthV r s))) :
    Calls Try.prog 9 #[.pointer (some ⟨b, 0, none⟩), .int .i64 g, .int .i64 x] w fun e w' => e = .returned (.bool true) ∧ Own1 w0 w' b mb r bank (putF f g (c, s)) (n + 1) ∧ Chg (fun k => k = b ∨ k = mb) w w' := by
  have k := alloc_yes h.cr g x hg hx ⟨by omega, hx2⟩ hn (by rw [hf]; simp only [hc]; exact hyes.imp id (fun h => ⟨h.1, Int.not_lt.2 h.2⟩))
  rw [hf] at k
  simp only [hc] at k
  exact k.mono fun _ _ ⟨he, hk⟩ => ⟨he, h.nxt hk.1 hk.2, hk.2⟩
theorem oallocno {w0 w : World} {b mb n : Nat} {r bank a s x c : Int} {f : Int → Int × Int} (h : Own1 w0 w b mb r bank f n) {g : Int} (hf : f g = (a, s)) (hg : (Lit.int .i64 g).wf = true) (hx : 0 ≤ x) (hx2 : x ≤ 9223372036854775807)
    (hc : fAdd a x = c) (hr : 0 < r) (hno : fAdd 64 (worthV r s) < c) :
    Calls Try.prog 9 #[.pointer (some ⟨b, 0, none⟩), .int .i64 g, .int .i64 x] w fun e w' => e = .returned (.bool false) ∧ Own1 w0 w' b mb r bank f n ∧ Chg (fun k => k = b ∨ k = mb) w w' :=
  (alloc_no h.cr g x hg hx ⟨by omega, hx2⟩ hr (by rw [hf]; simp only [hc]; exact hno)).mono fun _ _ ⟨he, hk⟩ => ⟨he, h.ex hk, hk.chg _⟩
theorem oscan {w0 w : World} {b mb n : Nat} {r bank a s x c : Int} {f : Int → Int × Int} (h : Own1 w0 w b mb r bank f n) {g : Int} (hf : f g = (a, s)) (hg : (Lit.int .i64 g).wf = true) (hx : 0 < x) (hx2 : x ≤ 9223372036854775807) (hn : n ≤ 1000000)
    (hc : fAdd s x = c) :
    Calls Try.prog 7 #[.pointer (some ⟨b, 0, none⟩), .int .i64 g, .int .i64 x] w fun e w' => e = .returned (.tuple #[]) ∧ Own1 w0 w' b mb r bank (putF f g (a, c)) (n + 1) ∧ Chg (fun k => k = b ∨ k = mb) w w' := by
  have k := scan_yes h.cr g x hg hx ⟨by omega, hx2⟩ hn
  rw [hf] at k
  simp only [hc] at k
  exact k.mono fun _ _ ⟨he, hk⟩ => ⟨he, h.nxt hk.1 hk.2, hk.2⟩
theorem osums {w0 w : World} {b mb n : Nat} {r bank a s : Int} {f : Int → Int × Int} (h : Own1 w0 w b mb r bank f n) {g : Int} (hf : f g = (a, s)) (hg : (Lit.int .i64 g).wf = true) :
    Calls Try.prog 8 #[.pointer (some ⟨b, 0, none⟩), .int .i64 g] w fun e w' => e = .returned (.tuple #[.int .i64 a, .int .i64 s]) ∧ Own1 w0 w' b mb r bank f n ∧ Chg (fun k => k = b ∨ k = mb) w w' := by
  have k := sums_any h.cr g hg
  rw [hf] at k
  exact k.mono fun _ _ ⟨he, hk⟩ => ⟨he, h.ex hk, hk.chg _⟩
theorem onew {w0 w : World} (r : Int) (hr : I64 r) (hx : Ex w0 w) :
    Calls Try.prog 6 #[.int .i64 r] w fun e w' => e = .returned (.pointer (some ⟨w.heap.size + 1, 0, none⟩)) ∧ Own1 w0 w' (w.heap.size + 1) w.heap.size r 0 (fun _ => (0, 0)) 0 ∧ Ex w w' :=
  (credit_new r w hr).mono fun _ _ ⟨he, hc, hk⟩ => ⟨he, ⟨hc, Below.trans hx (Below.mono hk hx.size), by have := hx.size; omega, hx.size⟩, hk⟩
theorem ofew {w0 w : World} {b mb n : Nat} {r bank a s : Int} {f : Int → Int × Int} (h : Own1 w0 w b mb r bank f n) {g : Int} (hf : f g = (a, s)) (hg : (Lit.int .i64 g).wf = true) (hr : 0 < r) (ha : a ≤ 64) :
    Calls Try.prog 14 #[.pointer (some ⟨b, 0, none⟩), .int .i64 g] w fun e w' => e = .returned (.int .i64 0) ∧ Own1 w0 w' b mb r bank f n ∧ Chg (fun k => k = b ∨ k = mb) w w' :=
  (owed_few h.cr g hg hr (by rw [hf]; exact ha)).mono fun _ _ ⟨he, hk⟩ => ⟨he, h.ex hk, hk.chg _⟩

theorem oowed {w0 w : World} {b mb n : Nat} {r bank : Int} {f : Int → Int × Int} (h : Own1 w0 w b mb r bank f n) (g : Int) (hr : r ≤ 0) :
    Calls Try.prog 14 #[.pointer (some ⟨b, 0, none⟩), .int .i64 g] w fun e w' => e = .returned (.int .i64 0) ∧ Own1 w0 w' b mb r bank f n ∧ Chg (fun k => k = b ∨ k = mb) w w' :=
  (owed_none h.cr g hr).mono fun _ _ ⟨he, hk⟩ => ⟨he, h.ex hk, hk.chg _⟩
theorem osteal {w0 w : World} {b mb n : Nat} {r bank : Int} {f : Int → Int × Int} (h : Own1 w0 w b mb r bank f n) (g : Int) (hr : r ≤ 0) (hb : 0 ≤ bank) :
    Calls Try.prog 15 #[.pointer (some ⟨b, 0, none⟩), .int .i64 g] w fun e w' => e = .returned (.int .i64 0) ∧ Own1 w0 w' b mb r bank f n ∧ Chg (fun k => k = b ∨ k = mb) w w' :=
  (steal_none h.cr g hb (Lib.hid fun x => owed_none (h.cr.ex x.2) g hr)).mono fun _ _ ⟨he, hc, hk⟩ => ⟨he, h.nxt hc hk, hk⟩
/-- Another credit stays as it is. -/
theorem Own1.other {w0 w w' : World} {b mb b' mb' n : Nat} {r bank : Int} {f : Int → Int × Int} (h : Own1 w0 w b mb r bank f n) (k : Chg (fun k => k = b' ∨ k = mb') w w') (h1 : b ≠ b' ∧ b ≠ mb' ∧ mb ≠ b' ∧ mb ≠ mb') (h2 : w0.heap.size ≤ b') (h3 : w0.heap.size ≤ mb') : Own1 w0 w' b mb r bank f n :=
  ⟨h.cr.chg k (by omega) (by omega), h.below.trans (k.below h.below.size (fun i hi => by omega)), h.hb, h.hm⟩
theorem wf_small {g : Int} (h0 : 0 ≤ g) (h : g ≤ 1000) : (Lit.int .i64 g).wf = true := by
  have h1 : -9223372036854775808 ≤ g := by omega
  have h2 : g ≤ 9223372036854775807 := by omega
  simp [Lit.wf]
  exact ⟨h1, h2⟩
theorem add_in {a b : Int} (h1 : -9223372036854775808 ≤ a + b) (h2 : a + b ≤ 9223372036854775807) : fAdd a b = a + b := clamp_in h1 h2

theorem wf0 : (Lit.int .i64 0).wf = true := by decide

set_option maxHeartbeats 1600000 in
theorem told_any (w : World) : Calls Try.prog 13 #[] w fun e w' => e = .returned (.bool true) ∧ Ex w w' := by
  have k1 : 64 ≤ fAdd 64 (worthV 2097152 0) := by decide
  have k2 : fAdd 64 (worthV 2097152 0) < 65 := by decide
  have k3 : 65 ≤ fAdd 64 (worthV 2097152 2) := by decide
  have K1 := Lib.hid k1
  have K2 := Lib.hid k2
  have K3 := Lib.hid k3
  clear k1 k2 k3
  go_enter Try.func13, Try.ntmps13
  go_wp2_with fail
  refine (onew 2097152 (by unfold I64; omega) (Ex.refl w)).mono ?_
  rintro e w1 ⟨rfl, h, -⟩
  have H1 := Lib.hid h
  clear h
  go_wp2_with fail
  refine (oalloc H1.out (g := 0) (c := 64) rfl wf0 (by omega) (by omega) (by omega) (by decide) (.inr ⟨by omega, K1.out⟩)).mono ?_
  rintro e w2 ⟨rfl, h, -⟩
  have H2 := Lib.hid h
  clear h
  go_wp2_with fail
  refine (oallocno H2.out (g := 0) (c := 65) (put_same _ _ _) wf0 (by omega) (by omega) (by decide) (by omega) K2.out).mono ?_
  rintro e w3 ⟨rfl, h, -⟩
  have H3 := Lib.hid h
  clear h
  go_wp2_with fail
  refine (ofew H3.out (g := 0) (put_same _ _ _) wf0 (by omega) (by omega)).mono ?_
  rintro e w4 ⟨rfl, h, -⟩
  have H4 := Lib.hid h
  clear h
  go_wp2_with fail
  refine (oscan H4.out (g := 0) (c := 2) (put_same _ _ _) wf0 (by omega) (by omega) (by omega) (by decide)).mono ?_
  rintro e w5 ⟨rfl, h, -⟩
  have H5 := Lib.hid h
  clear h
  go_wp2_with fail
  refine (oalloc H5.out (g := 0) (c := 65) (put_same _ _ _) wf0 (by omega) (by omega) (by omega) (by decide) (.inr ⟨by omega, K3.out⟩)).mono ?_
  rintro e w6 ⟨rfl, h, -⟩
  have H6 := Lib.hid h
  clear h
  go_wp2_with fail
  refine (osums H6.out (g := 0) (put_same _ _ _) wf0).mono ?_
  rintro e w7 ⟨rfl, h, -⟩
  have H7 := Lib.hid h
  clear h
  go_wp2_with fail
  go_ret
  exact ⟨rfl, H7.out.below⟩

end Go.Proofs.Ytomegcicfpmefaa
