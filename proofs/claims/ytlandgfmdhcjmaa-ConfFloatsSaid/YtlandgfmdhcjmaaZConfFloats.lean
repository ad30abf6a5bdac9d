/- ConfFloats: for every input the law returns true, and its arguments read as before. No condition. -/
import Derived.Test.YtlandgfmdhcjmaaRows
import Derived.Test.YtlandgfmdhcjmaaFloats2
import Derived.WalkKit
import Derived.ProofKit
import Derived.OpenShut
import Derived.Below
import Derived.Laws.Cover2
import Derived.Lib.SmallJoins
import Derived.ChangeArms
namespace Go.Proofs.Ytlandgfmdhcjmaa.confFloats
open Go.Joins Go.ChangeShapes Go.WideShapes Go.ChangeAt Go.RowKit
set_option linter.unusedVariables false

theorem own : ownKnob Try.prog.godebug = none := by kernel_rfl

section
variable {H : Type} {enc : TypeId × Value → H} {P : Program} {w : World} {base : Nat} {spare : Nat → Bool} {held : Bool}
theorem field_float {t : TypeId} {k : FloatKind} {n : Nat} {v : Value} {x : DataW H × List MemPlace} (ht : P.underlying t = some (.float k)) (h : DataW.trod enc P w base spare held n t [v] = some x) :
    ∃ b, v = .float k b ∧ x = (.lit (.float k b), []) ∧ (Lit.float k b).wf = true := by
  cases n with
  | zero => simp [DataW.trod] at h
  | succ n =>
    unfold DataW.trod at h
    rw [ht] at h
    split at h <;> simp_all
theorem open_cfg {r : Reach} {b0 : Nat} {v : Value} {d : DataW H} {p : List MemPlace} (hv : Value.okWide Try.prog w r b0 31 v) (h : DataW.Trod enc Try.prog w base spare held 31 v d p) :
    ∃ (a c : Int) (x y : Nat), v = .agg #[.int .i64 a, .int .i64 c, .float .f64 x, .float .f64 y] ∧ d = .agg [.lit (.int .i64 a), .lit (.int .i64 c), .lit (.float .f64 x), .lit (.float .f64 y)] ∧ p = [] ∧
      (Lit.int .i64 a).wf = true ∧ (Lit.int .i64 c).wf = true ∧ (Lit.float .f64 x).wf = true ∧ (Lit.float .f64 y).wf = true := by
  obtain ⟨v0, v1, v2, v3, y0, y1, y2, y3, n, rfl, rfl, rfl, h0, h1, h2, h3⟩ := open_agg4 Try.underlying31 (by kernel_rfl) (by kernel_rfl) hv h
  obtain ⟨a, e0, rfl, w0⟩ := DataW.trod_int Try.underlying3 h0
  obtain ⟨c, e1, rfl, w1⟩ := DataW.trod_int Try.underlying3 h1
  obtain ⟨x, rfl, rfl, w2⟩ := field_float Try.underlying22 h2
  obtain ⟨y, rfl, rfl, w3⟩ := field_float Try.underlying22 h3
  cases e0; cases e1
  exact ⟨a, c, x, y, rfl, rfl, rfl, w0, w1, w2, w3⟩
theorem shut_cfg {a c : Int} {x y : Nat} (w0 : (Lit.int .i64 a).wf = true) (w1 : (Lit.int .i64 c).wf = true) (w2 : (Lit.float .f64 x).wf = true) (w3 : (Lit.float .f64 y).wf = true) :
    DataW.Trod enc Try.prog w base spare held 31 (.agg #[.int .i64 a, .int .i64 c, .float .f64 x, .float .f64 y]) (.agg [.lit (.int .i64 a), .lit (.int .i64 c), .lit (.float .f64 x), .lit (.float .f64 y)]) [] :=
  shut_agg4 (y0 := (.lit (.int .i64 a), [])) (y1 := (.lit (.int .i64 c), [])) (y2 := (.lit (.float .f64 x), [])) (y3 := (.lit (.float .f64 y), [])) Try.underlying31 (by kernel_rfl) (by kernel_rfl)
    (shut_int Try.underlying3 w0) (shut_int Try.underlying3 w1) (shut_float Try.underlying22 w2) (shut_float Try.underlying22 w3)
end

set_option maxRecDepth 100000 in
theorem lifted (os : Os) (started : os.Started) (H : Type) (enc : TypeId × Value → H) :
    ReturnsInHanded {} Try.checked os 6 .any (Rows.confFloatsSpec.pre6 enc Try.prog Try.f6 Rows.confFloatsRow.domain false) (Rows.confFloatsSpec.post enc Try.prog Try.f6 false true false false) := by
  refine returnsInHanded_of_change (C := Try.checked) own started (by kernel_rfl) Try.func6
    (ChangeSpec.witness6 (enc := enc) (C := Try.checked) false ⟨#[], #[.agg #[.int .i64 0, .int .i64 0, .float .f64 0, .float .f64 0], .agg #[.int .i64 0, .int .i64 0, .float .f64 0, .float .f64 0]], []⟩ 8 (by kernel_rfl) (by kernel_rfl) (by kernel_rfl) (by kernel_rfl)) ?_
  intro W base args ds gs before hval0 hW hcnd _
  have hval : ∀ (j : Nat) t v, Try.f6.params[j]? = some t → args[j]? = some v → Value.okWide Try.prog W .any base t v := hval0
  have hW' := hW
  obtain ⟨p, q, hA0, hV, rfl, hfz, hnd⟩ := hW
  have hA : DataW.TrodAll enc Try.prog W 0 (fun _ => true) true Try.f6.params.toList args.toList ds p := hA0
  rw [Try.params6] at hA hval
  obtain ⟨v0, vs0, d0, ds0, p0, q0, hargs, rfl, rfl, h0, r0⟩ := trodAll_cons hA
  obtain ⟨v1, vs1, d1, ds1, p1, q1, rfl, rfl, rfl, h1, r1⟩ := trodAll_cons r0
  obtain ⟨rfl, rfl, rfl⟩ := trodAll_nil r1
  obtain rfl : args = #[v0, v1] := by cases args; simp_all
  obtain ⟨rfl, rfl⟩ := trodVars_none hV
  obtain ⟨a, c, x, x', rfl, rfl, rfl, u0, u1, u2, u3⟩ := open_cfg (hval 0 31 v0 rfl rfl) h0
  obtain ⟨b, d, y, y', rfl, rfl, rfl, t0, t1, t2, t3⟩ := open_cfg (hval 1 31 v1 rfl rfl) h1
  clear hA0 hval0
  simp only [List.append_nil] at hW'
  refine (Go.Proofs.Ytlandgfmdhcjmaa.walk_ConfFloats a c b d x x' y y' W).mono fun e W' ⟨he, hg⟩ => ?_
  subst he
  exact ⟨_, rfl, _, _, _, [], _, [], hW', (trodAll_cons_mk (shut_bool Try.underlying4 _) trodAll_mk0), (trodAll_cons_mk (shut_cfg u0 u1 u2 u3) (trodAll_cons_mk (shut_cfg t0 t1 t2 t3) trodAll_mk0)), rfl, hg.frame _, fun h => by cases h⟩

theorem over : Rows.confFloatsRow.holds Try.pinned (OpenSpec.ofChange Rows.confFloatsSpec) :=
  OpenClaim.holds_of_wide 6 Try.f6 rfl rfl rfl rfl rfl rfl rfl ⟨rfl, rfl, rfl, rfl, rfl⟩ rfl rfl rfl rfl rfl (by kernel_rfl) Try.func6 (by kernel_rfl)
    (of_decide_eq_true (by kernel_rfl)) (by unfold Func.isWrapper; first | (rw [if_pos (by decide +kernel)]; kernel_rfl) | (rw [if_neg (by decide +kernel)]; exact ⟨rfl, rfl⟩))
    (fun os started H enc _ => lifted os started H enc)

/-- THE STATEMENT -/
theorem proved : Rows.ConfFloatsSaid :=
  over
#print axioms proved
end Go.Proofs.Ytlandgfmdhcjmaa.confFloats
