/- Package credit: contracts. -/
import Derived.Test.YtomegcicfpmefaaCred22
import Derived.RegionTactic
import Derived.BigRegion
import Derived.Deep.Cut
import Derived.Outline
namespace Go.Proofs.Ytomegcicfpmefaa
open Go.RowKit Go.Maps
set_option linter.unusedVariables false

theorem Dr.ex {w w' : World} (h : Dr w w') : Ex w w' := by
  obtain ⟨n, rfl⟩ := h
  exact Ex.drawn w n
theorem rw_add {a b c : Int} {w : World} (h : Hid (fAdd a b = c)) (ha : I64 a) (hb : I64 b) :
    Calls Try.prog 18 #[.int .i64 a, .int .i64 b] w fun e w' => e = .returned (.int .i64 c) ∧ w = w' := by
  have k := fAdd_any a b w ha.1 ha.2 hb.1 hb.2
  rw [h.out] at k
  exact k
theorem i_add (a b : Int) : I64 (fAdd a b) := clamp_le _
theorem i_sub (a b : Int) : I64 (fSub a b) := clamp_le _
theorem i_whole (a : Int) : I64 (fWhole a) := clamp_le _
theorem i_div (a b : Int) : I64 (fDiv a b) := by
  unfold fDiv
  by_cases h : b = 0
  · rw [if_pos h]
    by_cases h1 : 0 < a
    · rw [if_pos h1]; unfold I64 fMax; omega
    · rw [if_neg h1]
      by_cases h2 : a < 0
      · rw [if_pos h2]; unfold I64 fMin; omega
      · rw [if_neg h2]; unfold I64; omega
  · rw [if_neg h]; exact clamp_le _
theorem i_int {a : Int} (h : I64 a) : I64 (fInt a) := by unfold I64 fInt at *; omega

def worthV (r s : Int) : Int := fInt (fDiv (fWhole s) r)
theorem i_worth (r s : Int) : I64 (worthV r s) := i_int (i_div _ _)

theorem quiet_dr {P : Program} {f : FuncId} {args : Array Value} {W : World} {x : Out W} {v : Value} (h : Calls P f args x.w fun e w' => e = .returned v ∧ Dr x.w w') :
    Calls P f args x.w fun e w'' => e = .returned v ∧ ∃ y : Out W, w'' = y.w :=
  quiet_ex (h.mono fun _ _ ⟨he, hw⟩ => ⟨he, hw.ex⟩)

set_option maxHeartbeats 800000 in
theorem worth_walk (b : Nat) (r s aw q v : Int) (w : World) (c0 : ∀ x : Out w, x.w.cell? ⟨b, 0, none⟩ = some (.int .i64 r)) (hs : I64 s) (hr : I64 r) (h1 : Hid (fWhole s = aw)) (i1 : I64 aw) (h2 : Hid (fDiv aw r = q)) (h3 : Hid (fInt q = v)) :
    Calls Try.prog 19 #[.pointer (some ⟨b, 0, none⟩), .int .i64 s] w fun e w' => e = .returned (.int .i64 v) ∧ Ex w w' := by
  go_enter Try.func19, Try.ntmps19
  go_wp2_with fail
  refine wp_region_ex (by kernel_rfl) (by kernel_rfl) ?_
  try simp only [List.append]
  repeat (go_big_quiet_step (first
    | (go_at_call 12; exact quiet_eq (rw_whole h1 hs.1 hs.2))
    | (go_at_call 11; exact quiet_dr (rw_div h2 i1.1 i1.2 hr.1 hr.2))
    | (go_at_call 10; exact quiet_eq (rw_int h3))))
  refine wpQuiet_nil ?_
  rintro w4 ⟨⟨wz, hw⟩, rfl⟩
  have E := Lib.hid hw
  clear hw c0
  go_wp2_with fail
  go_ret
  exact ⟨rfl, E.out⟩

theorem worth_any {w : World} {b mb n : Nat} {r bank : Int} {f : Int → Int × Int} (h : Cr w b mb r bank f n) (s : Int) (hs : I64 s) :
    Calls Try.prog 19 #[.pointer (some ⟨b, 0, none⟩), .int .i64 s] w fun e w' => e = .returned (.int .i64 (worthV r s)) ∧ Ex w w' :=
  worth_walk b r s _ _ _ w (h.box.out 0) hs h.rb (Lib.hid rfl) (i_whole s) (Lib.hid rfl) (Lib.hid rfl)

theorem credit_new (r : Int) (w : World) (hr : I64 r) :
    Calls Try.prog 6 #[.int .i64 r] w fun e w' => e = .returned (.pointer (some ⟨w.heap.size + 1, 0, none⟩)) ∧ Cr w' (w.heap.size + 1) w.heap.size r 0 (fun _ => (0, 0)) 0 ∧ Ex w w' := by
  have hmm := @run_makeMap Try.prog
  go_enter Try.func6, Try.ntmps6
  go_wp2
  go_ret
  have e1 := Ex.made w (.map #[] 0)
  have e2 := Ex.made (w.alloc (.map #[] 0)) (.cells #[.int .i64 r, .map (some w.heap.size), .int .i64 0] 44)
  refine ⟨rfl, ⟨?_, ⟨_, (World.ownsMap_made w Try.prog 3 sumR).alloc _, isMap_empty, fun g _ => rfl⟩, fun g => ⟨by unfold I64; omega, by unfold I64; omega⟩, hr, by unfold I64; omega⟩, e1.trans e2⟩
  have := Box.fresh (w.alloc (.map #[] 0)) #[.int .i64 r, .map (some w.heap.size), .int .i64 0] 44
  simpa using this

set_option maxHeartbeats 800000 in
theorem sums_any {w : World} {b mb n : Nat} {r bank : Int} {f : Int → Int × Int} (h : Cr w b mb r bank f n) (g : Int) (hg : (Lit.int .i64 g).wf = true) :
    Calls Try.prog 8 #[.pointer (some ⟨b, 0, none⟩), .int .i64 g] w fun e w' => e = .returned (.tuple #[.int .i64 (f g).1, .int .i64 (f g).2]) ∧ Ex w w' := by
  have c1 : ∀ x : Out w, x.w.cell? ⟨b, 1, none⟩ = some (.map (some mb)) := h.box.out 1
  have hl : ∀ x : Out w, (Instr.lookup 42 (.map (some mb)) (.int .i64 g) false).run Try.prog x.w = .ok (.agg #[.int .i64 (f g).1, .int .i64 (f g).2]) x.w := fun x => (h.ex x.2).look g hg
  obtain ⟨p, hp⟩ : ∃ p, f g = p := ⟨_, rfl⟩
  rw [hp] at hl ⊢
  obtain ⟨p1, p2⟩ := p
  have hf0 : ∀ w, (Instr.field 46 (.agg #[.int .i64 p1, .int .i64 p2]) 0).run Try.prog w = .ok (.int .i64 p1) w := fun _ => by kernel_rfl
  have hf1 : ∀ w, (Instr.field 46 (.agg #[.int .i64 p1, .int .i64 p2]) 1).run Try.prog w = .ok (.int .i64 p2) w := fun _ => by kernel_rfl
  clear h hp hg
  go_enter Try.func8, Try.ntmps8
  go_wp2_with fail
  refine wp_region_ex (by kernel_rfl) (by kernel_rfl) ?_
  try simp only [List.append]
  repeat (go_big_quiet_step (fail))
  refine wpQuiet_nil ?_
  rintro w4 ⟨⟨wz, hw⟩, rfl⟩
  have E := Lib.hid hw
  clear hw c1 hl
  go_wp2_with fail
  go_ret2
  exact ⟨rfl, E.out⟩

set_option maxHeartbeats 1600000 in
theorem alloc_neg (b : Nat) (g x : Int) (w : World) (hx : x < 0) : Calls Try.prog 9 #[.pointer (some ⟨b, 0, none⟩), .int .i64 g, .int .i64 x] w fun e w' => e = .returned (.bool false) ∧ w = w' := by
  go_enter Try.func9, Try.ntmps9
  go_wp2
  go_ret
  exact ⟨rfl, rfl⟩

/-- Behind an operation on the sums of one goroutine. -/
def CrNxt (w : World) (b mb : Nat) (r bank : Int) (f : Int → Int × Int) (n : Nat) (w' : World) : Prop := Cr w' b mb r bank f n ∧ Chg (fun k => k = b ∨ k = mb) w w'

/-- A struct of two numbers of the call's own. -/
theorem two_cells {w : World} {b : Nat} {x y : Value} {t : TypeId} (h : Box w b #[x, y] t) : w.cell? ⟨b, 0, none⟩ = some x ∧ w.cell? ⟨b, 1, none⟩ = some y ∧ w.frozen? ⟨b, 0, none⟩ = false ∧ w.frozen? ⟨b, 1, none⟩ = false :=
  ⟨h.cell 0, h.cell 1, h.soft 0, h.soft 1⟩

set_option maxHeartbeats 1600000 in
theorem alloc_no {w : World} {b mb n : Nat} {r bank : Int} {f : Int → Int × Int} (h : Cr w b mb r bank f n) (g x : Int) (hg : (Lit.int .i64 g).wf = true) (hx : 0 ≤ x) (hx2 : I64 x) (hr : 0 < r) (hno : fAdd 64 (worthV r (f g).2) < fAdd (f g).1 x) :
    Calls Try.prog 9 #[.pointer (some ⟨b, 0, none⟩), .int .i64 g, .int .i64 x] w fun e w' => e = .returned (.bool false) ∧ Ex w w' := by
  have c0 : w.cell? ⟨b, 0, none⟩ = some (.int .i64 r) := h.box.cell 0
  have c1 : w.cell? ⟨b, 1, none⟩ = some (.map (some mb)) := h.box.cell 1
  have hb := h.box.lt
  have hl := h.look g hg
  have hbd := h.bd g
  obtain ⟨p, hp⟩ : ∃ p, f g = p := ⟨_, rfl⟩
  rw [hp] at hl hbd hno
  obtain ⟨p1, p2⟩ := p
  obtain ⟨sm, hsm⟩ : ∃ sm, fAdd p1 x = sm := ⟨_, rfl⟩
  obtain ⟨wv, hwv⟩ : ∃ wv, worthV r p2 = wv := ⟨_, rfl⟩
  obtain ⟨lm, hlm⟩ : ∃ lm, fAdd 64 wv = lm := ⟨_, rfl⟩
  have iw : I64 wv := by rw [← hwv]; exact i_worth _ _
  simp only [hsm, hwv, hlm] at hno
  have KA := Lib.hid hsm
  have KL := Lib.hid hlm
  have KW : Hid (∀ w' : World, Ex w w' → Calls Try.prog 19 #[.pointer (some ⟨b, 0, none⟩), .int .i64 p2] w' fun e w'' => e = .returned (.int .i64 wv) ∧ Ex w' w'') := by
    apply Lib.hid
    intro w' hx
    have := worth_any (h.ex hx) p2 hbd.2
    rw [hwv] at this
    exact this
  obtain ⟨i1, i2⟩ := hbd
  clear h hp hg hsm hwv hlm
  go_enter Try.func9, Try.ntmps9
  go_wp2_with fail
  refine (rw_add KA i1 hx2).mono ?_
  rintro e w' ⟨rfl, rfl⟩
  go_wp2_with fail
  refine (KW.out _ (Ex.made _ _)).mono ?_
  rintro e w1 ⟨rfl, hx⟩
  have X1 := Lib.hid ((Ex.made w (.cells #[.int .i64 p1, .int .i64 p2] 46)).trans hx)
  clear hx
  go_wp2_with fail
  refine (rw_add KL (by unfold I64; omega) iw).mono ?_
  rintro e w' ⟨rfl, rfl⟩
  go_wp2_with fail
  go_ret
  exact ⟨rfl, X1.out⟩

end Go.Proofs.Ytomegcicfpmefaa
