/- Package credit: Owed where something may be owed: its contract. -/
import Derived.Test.YtomegcicfpmefaaTold22
namespace Go.Proofs.Ytomegcicfpmefaa
open Go.RowKit Go.Maps
set_option linter.unusedVariables false

theorem worth_all {r s t : Int} (hr : 0 < r) (h : s ≤ t) : worthV r s ≤ worthV r t := by
  have h1 : fWhole s ≤ fWhole t := clamp_mono (by omega)
  have h2 : fDiv (fWhole s) r ≤ fDiv (fWhole t) r := by
    unfold fDiv
    rw [if_neg (by omega), if_neg (by omega), floorDiv_pos hr, floorDiv_pos hr]
    exact clamp_mono (Int.ediv_le_ediv hr (by omega))
  unfold worthV fInt
  omega
theorem add_mono {s x y : Int} (h : x ≤ y) : fAdd s x ≤ fAdd s y := clamp_mono (by omega)

/-- Is so much more scanning enough? -/
def enoughB (r s need x : Int) : Bool := decide (need ≤ worthV r (fAdd s x))

set_option maxHeartbeats 800000 in
theorem enough_any (B S N b : Nat) (r s need x y v : Int) (e : Bool) (w : World) (cB : ∀ o : Out w, o.w.cell? ⟨B, 0, none⟩ = some (.pointer (some ⟨b, 0, none⟩))) (cS : ∀ o : Out w, o.w.cell? ⟨S, 1, none⟩ = some (.int .i64 s)) (cN : ∀ o : Out w, o.w.cell? ⟨N, 0, none⟩ = some (.int .i64 need))
    (hs : I64 s) (hx : I64 x) (hy : Hid (fAdd s x = y)) (KW : Hid (∀ o : Out w, Calls Try.prog 19 #[.pointer (some ⟨b, 0, none⟩), .int .i64 y] o.w fun e w'' => e = .returned (.int .i64 v) ∧ Ex o.w w'')) (he : decide (need ≤ v) = e) :
    Calls Try.prog 25 #[.int .i64 x, .pointer (some ⟨B, 0, none⟩), .pointer (some ⟨S, 0, none⟩), .pointer (some ⟨N, 0, none⟩)] w fun e' w' => e' = .returned (.bool e) ∧ Ex w w' := by
  go_enter Try.func25, Try.ntmps25
  go_wp2_with fail
  refine wp_region_ex (by kernel_rfl) (by kernel_rfl) ?_
  try simp only [List.append]
  repeat (go_big_quiet_step (first
    | (go_at_call 18; exact quiet_eq (rw_add hy hs hx))
    | (go_at_call 19; exact quiet_ex (KW.out _))))
  refine wpQuiet_nil ?_
  rintro w4 ⟨⟨wz, hw⟩, rfl⟩
  have E := Lib.hid hw
  clear hw cB cS cN
  go_wp2_with fail
  go_ret
  exact ⟨rfl, E.out⟩

/-- What is known at the closure's call. -/
structure Seen (w : World) (B S N b mb n : Nat) (r bank s need : Int) (f : Int → Int × Int) : Prop where
  cr : Cr w b mb r bank f n
  bB : Box w B #[.pointer (some ⟨b, 0, none⟩)] 23
  bS : ∃ a, Box w S #[.int .i64 a, .int .i64 s] 46
  bN : Box w N #[.int .i64 need] 2
  si : I64 s

theorem Seen.ex {w w' : World} {B S N b mb n : Nat} {r bank s need : Int} {f : Int → Int × Int} (h : Seen w B S N b mb n r bank s need f) (k : Ex w w') : Seen w' B S N b mb n r bank s need f :=
  ⟨h.cr.ex k, h.bB.ex k, by obtain ⟨a, ha⟩ := h.bS; exact ⟨a, ha.ex k⟩, h.bN.ex k, h.si⟩

theorem seen_enough {w : World} {B S N b mb n : Nat} {r bank s need : Int} {f : Int → Int × Int} (h : Seen w B S N b mb n r bank s need f) (x : Int) (hx : I64 x) (e : Bool) (he : enoughB r s need x = e) :
    Calls Try.prog 25 #[.int .i64 x, .pointer (some ⟨B, 0, none⟩), .pointer (some ⟨S, 0, none⟩), .pointer (some ⟨N, 0, none⟩)] w fun e' w' => e' = .returned (.bool e) ∧ Ex w w' := by
  obtain ⟨a, ha⟩ := h.bS
  exact enough_any B S N b r s need x _ (worthV r (fAdd s x)) e w (h.bB.out 0) (ha.out 1) (h.bN.out 0) h.si hx (Lib.hid rfl) (Lib.hid fun o => worth_any (h.cr.ex o.2) _ (i_add _ _)) he

set_option maxRecDepth 10000 in
set_option maxHeartbeats 6400000 in
theorem owed_search {w : World} {b mb n : Nat} {r bank a s need : Int} {f : Int → Int × Int} (h : Cr w b mb r bank f n) (g : Int) (hg : (Lit.int .i64 g).wf = true) (hr : 0 < r) (hf : f g = (a, s)) (ha : 64 < a) (hneed : fAdd (fSub a 64) 1 = need)
    (hmax : enoughB r s need 9223372036854775807 = true) :
    Calls Try.prog 14 #[.pointer (some ⟨b, 0, none⟩), .int .i64 g] w fun e w' => Ex w w' ∧ ((e = .returned (.int .i64 0) ∧ enoughB r s need 0 = true) ∨ ∃ o : Int, e = .returned (.int .i64 o) ∧ 1 ≤ o ∧ o ≤ 9223372036854775807 ∧ enoughB r s need (o - 1) = false ∧ enoughB r s need o = true) := by
  have hmf : ∀ (fn : Fn) (first cap : Array Value) (w : World), (Instr.makeFunc fn first cap).run Try.prog w = .ok (.func fn first cap) w := fun _ _ _ _ => rfl
  have c0 : w.cell? ⟨b, 0, none⟩ = some (.int .i64 r) := h.box.cell 0
  have c1 : w.cell? ⟨b, 1, none⟩ = some (.map (some mb)) := h.box.cell 1
  have hb := h.box.lt
  have hl := (h.ex (Ex.made w (.cells #[.pointer (some ⟨b, 0, none⟩)] 23))).look g hg
  have hbd := h.bd g
  have H := Lib.hid h
  rw [hf] at hl hbd
  obtain ⟨j1, j2⟩ := hbd
  obtain ⟨s1, hs1⟩ : ∃ s1, fSub a 64 = s1 := ⟨_, rfl⟩
  rw [hs1] at hneed
  have i1 : I64 s1 := by rw [← hs1]; exact i_sub _ _
  have K1 := Lib.hid hs1
  have K2 := Lib.hid hneed
  have HM := Lib.hid hmax
  replace j1 : I64 a := j1
  replace j2 : I64 s := j2
  replace hl : (Instr.lookup 42 (.map (some mb)) (.int .i64 g) false).run Try.prog (w.alloc (.cells #[.pointer (some ⟨b, 0, none⟩)] 23)) = .ok (.agg #[.int .i64 a, .int .i64 s]) (w.alloc (.cells #[.pointer (some ⟨b, 0, none⟩)] 23)) := hl
  clear h hf hs1 hneed hmax
  go_enter Try.func14, Try.ntmps14
  go_wp2_with fail
  refine (rw_sub K1 j1 (by unfold I64; omega)).mono ?_
  rintro e w' ⟨rfl, rfl⟩
  go_wp2_with fail
  refine (rw_add K2 i1 (by unfold I64; omega)).mono ?_
  rintro e w' ⟨rfl, rfl⟩
  go_wp2_with fail
  have e1 := Ex.made w (.cells #[.pointer (some ⟨b, 0, none⟩)] 23)
  have e2 := Ex.made (w.alloc (.cells #[.pointer (some ⟨b, 0, none⟩)] 23)) (.cells #[.int .i64 a, .int .i64 s] 46)
  have e3 := Ex.made ((w.alloc (.cells #[.pointer (some ⟨b, 0, none⟩)] 23)).alloc (.cells #[.int .i64 a, .int .i64 s] 46)) (.cells #[.int .i64 need] 2)
  have x1 := Box.fresh w #[.pointer (some ⟨b, 0, none⟩)] 23
  have x2 := Box.fresh (w.alloc (.cells #[.pointer (some ⟨b, 0, none⟩)] 23)) #[.int .i64 a, .int .i64 s] 46
  have x3 := Box.fresh ((w.alloc (.cells #[.pointer (some ⟨b, 0, none⟩)] 23)).alloc (.cells #[.int .i64 a, .int .i64 s] 46)) #[.int .i64 need] 2
  have hS : Hid (Seen (((w.alloc (.cells #[.pointer (some ⟨b, 0, none⟩)] 23)).alloc (.cells #[.int .i64 a, .int .i64 s] 46)).alloc (.cells #[.int .i64 need] 2)) w.heap.size (w.heap.size + 1) (w.heap.size + 1 + 1) b mb n r bank s need f) := by
    refine Lib.hid ⟨H.out.ex ((e1.trans e2).trans e3), x1.ex (e2.trans e3), ⟨a, ?_⟩, ?_, j2⟩
    · have := x2.ex e3
      simpa using this
    · simpa using x3
  have hX := Lib.hid ((e1.trans e2).trans e3)
  clear e1 e2 e3 x1 x2 x3 c0 c1 hl K1 K2
  by_cases h0 : enoughB r s need 0 = true
  · refine (seen_enough hS.out 0 (by unfold I64; omega) true h0).mono ?_
    rintro e w1 ⟨rfl, hx⟩
    have X1 := Lib.hid (hX.out.trans hx)
    have H0 := Lib.hid h0
    clear hx hS hX h0
    go_wp2_with fail
    go_ret
    exact ⟨X1.out, .inl ⟨rfl, H0.out⟩⟩
  · have h0' : enoughB r s need 0 = false := by simpa using h0
    refine (seen_enough hS.out 0 (by unfold I64; omega) false h0').mono ?_
    rintro e w1 ⟨rfl, hx⟩
    have X1 := Lib.hid (hX.out.trans hx)
    have S1 := Lib.hid (hS.out.ex hx)
    have H0 := Lib.hid h0'
    clear hx hS hX h0 h0'
    go_wp2_with fail
    refine (seen_enough S1.out 9223372036854775807 (by unfold I64; omega) true HM.out).mono ?_
    rintro e w2 ⟨rfl, hx⟩
    have X2 := Lib.hid (X1.out.trans hx)
    have S2 := Lib.hid (S1.out.ex hx)
    clear hx S1 X1
    go_wp2_with fail
    go_loopw [8, 9] (fun lv hv wr => ∃ lo hi : Int, lv = .int .i64 lo ∧ hv = .int .i64 hi ∧ 0 ≤ lo ∧ lo < hi ∧ hi ≤ 9223372036854775807 ∧ enoughB r s need lo = false ∧ enoughB r s need hi = true ∧ Seen wr w.heap.size (w.heap.size + 1) (w.heap.size + 1 + 1) b mb n r bank s need f ∧ Ex w wr) (fun lv hv _ => (intOf hv - intOf lv).toNat)
    case atStart => exact ⟨0, 9223372036854775807, rfl, rfl, by omega, by omega, by omega, H0.out, HM.out, S2.out, X2.out⟩
    case round =>
      obtain ⟨lo, hi, rfl, rfl, l0, l1, l2, q1, q2, hs, hx⟩ := hrel
      have S := Lib.hid hs
      have X := Lib.hid hx
      have Q1 := Lib.hid q1
      have Q2 := Lib.hid q2
      clear hs hx q1 q2 S2 X2 H0 HM
      by_cases hc : 1 < hi - lo
      · obtain ⟨m, hm⟩ : ∃ m, lo + (hi - lo) / 2 = m := ⟨_, rfl⟩
        have m1 : lo < m := by omega
        have m2 : m < hi := by omega
        go_wp2_with fail
        by_cases he : enoughB r s need m = true
        · refine (seen_enough S.out m ⟨by omega, by omega⟩ true he).mono ?_
          rintro e wa ⟨rfl, hx⟩
          have Xa := Lib.hid (X.out.trans hx)
          have Sa := Lib.hid (S.out.ex hx)
          have HE := Lib.hid he
          clear hx S X he
          go_wp2_with fail
          go_roundw
          case rel => exact ⟨lo, m, rfl, rfl, l0, m1, by omega, Q1.out, HE.out, Sa.out, Xa.out⟩
          case measure => simp [intOf]; omega
        · have he' : enoughB r s need m = false := by simpa using he
          refine (seen_enough S.out m ⟨by omega, by omega⟩ false he').mono ?_
          rintro e wa ⟨rfl, hx⟩
          have Xa := Lib.hid (X.out.trans hx)
          have Sa := Lib.hid (S.out.ex hx)
          have HE := Lib.hid he'
          clear hx S X he he'
          go_wp2_with fail
          go_roundw
          case rel => exact ⟨m, hi, rfl, rfl, by omega, m2, l2, HE.out, Q2.out, Sa.out, Xa.out⟩
          case measure => simp [intOf]; omega
      · have e1 : hi - 1 = lo := by omega
        have E1 := Lib.hid e1
        clear e1
        go_wp2_with fail
        go_ret
        exact ⟨X.out, .inr ⟨hi, rfl, by omega, l2, by rw [E1.out]; exact Q1.out, Q2.out⟩⟩

end Go.Proofs.Ytomegcicfpmefaa
