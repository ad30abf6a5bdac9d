/-
  No cell of these rows narrows 'for every input' (looked for: loops, veiled, ifaces, maps, wideKeys, modest, calm, conditions, laid).
  DERIVED. THE GIVEN ROWS OF THIS SEAT. 4 by the template 'for every input the law returns true; each argument reads behind the call as it read before'; 0 by the template 'total and deterministic' (their statements: YtbbhgcabebjlhaaTotals.lean).
  GIVEN WITH THE SEED: the statements are not yours to turn. If you find one false, say at which input.
  Laid BY PROGRAM, IN A SANDBOX (cutbox-rows.mjs): the forced cells as the released guide's own fill.sh prints them over the translation 63cedfc9d8685c4e… (all of the seat's roots in one cut). By AI agents, Wed Nov 11 2026. No macro, syntax, notation, axiom, sorry.
-/
import Derived.Test.YtbbhgcabebjlhaaChecked
import GoSem.Claim
import GoSem.ClaimJoined
import GoSem.ClaimMapViews
import Derived.JoinedTies
import Derived.KernelRfl
namespace Go.Proofs.Ytbbhgcabebjlhaa
/- THE CELL 'sum', in the pinned program and in every row, IS THE sha256 OF THE DUMP (.gsa) THAT YtbbhgcabebjlhaaProg.lean LOADS. Nothing in Lean hashes anything: it is a label: what it is worth is what the hold of that sum in a sandbox is worth. -/
noncomputable def Try.pinned : Pinned := { name := "ytbbhgcabebjlhaa", sum := "63cedfc9d8685c4e189e2f353a2c7f33e5bc48638592706d78bcf54cab3a280a", checked := Try.checked }
namespace Rows
def none {H : Type} : Left H := { results := [], args := [] }

/-- 'treadmilllaw23.PacerSteps': WHATEVER THE INPUT: true; the input reads as it did. -/
def pacerStepsSpec : ChangeSpec := { name := "pacerSteps", fn := fun _ => fun
  | [d1, d2, d3] => { results := [.lit (.bool true)], args := [d1, d2, d3] }
  | _ => none }
def pacerStepsRow : OpenClaim := { program := "ytbbhgcabebjlhaa", sum := "63cedfc9d8685c4e189e2f353a2c7f33e5bc48638592706d78bcf54cab3a280a", func := "treadmill/treadmilllaw23.PacerSteps", spec := "pacerSteps", inPlace := ["math/bits.Add64"], unfollowed := true, recurses := true, named := ["math/bits.divideError", "math/bits.overflowError"], apart := false }
def PacerStepsSaid : Prop := pacerStepsRow.holds Try.pinned (OpenSpec.ofChange pacerStepsSpec)

/-- ITS FALSE NEIGHBOUR: 'it returns false'. Refute it at one input. -/
def pacerStepsWrong : ChangeSpec := { name := "pacerSteps", fn := fun _ => fun
  | [d1, d2, d3] => { results := [.lit (.bool false)], args := [d1, d2, d3] }
  | _ => none }
def PacerStepsWrongFalsely : Prop := pacerStepsRow.holds Try.pinned (OpenSpec.ofChange pacerStepsWrong)

/-- 'treadmilllaw23.PacerOrder': WHATEVER THE INPUT: true; the input reads as it did. -/
def pacerOrderSpec : ChangeSpec := { name := "pacerOrder", fn := fun _ => fun
  | [d1, d2, d3, d4, d5, d6, d7] => { results := [.lit (.bool true)], args := [d1, d2, d3, d4, d5, d6, d7] }
  | _ => none }
def pacerOrderRow : OpenClaim := { program := "ytbbhgcabebjlhaa", sum := "63cedfc9d8685c4e189e2f353a2c7f33e5bc48638592706d78bcf54cab3a280a", func := "treadmill/treadmilllaw23.PacerOrder", spec := "pacerOrder", inPlace := ["math/bits.Add64"], unfollowed := true, recurses := true, named := ["math/bits.divideError", "math/bits.overflowError"], apart := false }
def PacerOrderSaid : Prop := pacerOrderRow.holds Try.pinned (OpenSpec.ofChange pacerOrderSpec)

/-- ITS FALSE NEIGHBOUR: 'it returns false'. Refute it at one input. -/
def pacerOrderWrong : ChangeSpec := { name := "pacerOrder", fn := fun _ => fun
  | [d1, d2, d3, d4, d5, d6, d7] => { results := [.lit (.bool false)], args := [d1, d2, d3, d4, d5, d6, d7] }
  | _ => none }
def PacerOrderWrongFalsely : Prop := pacerOrderRow.holds Try.pinned (OpenSpec.ofChange pacerOrderWrong)

/-- 'treadmilllaw23.PacerEdges': WHATEVER THE INPUT: true; the input reads as it did. -/
def pacerEdgesSpec : ChangeSpec := { name := "pacerEdges", fn := fun _ => fun
  | [d] => { results := [.lit (.bool true)], args := [d] }
  | _ => none }
def pacerEdgesRow : OpenClaim := { program := "ytbbhgcabebjlhaa", sum := "63cedfc9d8685c4e189e2f353a2c7f33e5bc48638592706d78bcf54cab3a280a", func := "treadmill/treadmilllaw23.PacerEdges", spec := "pacerEdges", inPlace := ["math/bits.Add64"], unfollowed := true, recurses := true, named := ["math/bits.divideError", "math/bits.overflowError"], apart := false }
def PacerEdgesSaid : Prop := pacerEdgesRow.holds Try.pinned (OpenSpec.ofChange pacerEdgesSpec)

/-- ITS FALSE NEIGHBOUR: 'it returns false'. Refute it at one input. -/
def pacerEdgesWrong : ChangeSpec := { name := "pacerEdges", fn := fun _ => fun
  | [d] => { results := [.lit (.bool false)], args := [d] }
  | _ => none }
def PacerEdgesWrongFalsely : Prop := pacerEdgesRow.holds Try.pinned (OpenSpec.ofChange pacerEdgesWrong)

/-- 'treadmilllaw23.PacerPays': WHATEVER THE INPUT: true; the input reads as it did. -/
def pacerPaysSpec : ChangeSpec := { name := "pacerPays", fn := fun _ => fun
  | [d1, d2] => { results := [.lit (.bool true)], args := [d1, d2] }
  | _ => none }
def pacerPaysRow : OpenClaim := { program := "ytbbhgcabebjlhaa", sum := "63cedfc9d8685c4e189e2f353a2c7f33e5bc48638592706d78bcf54cab3a280a", func := "treadmill/treadmilllaw23.PacerPays", spec := "pacerPays", inPlace := ["math/bits.Add64"], unfollowed := true, recurses := true, named := ["math/bits.divideError", "math/bits.overflowError"], apart := false }
def PacerPaysSaid : Prop := pacerPaysRow.holds Try.pinned (OpenSpec.ofChange pacerPaysSpec)

/-- ITS FALSE NEIGHBOUR: 'it returns false'. Refute it at one input. -/
def pacerPaysWrong : ChangeSpec := { name := "pacerPays", fn := fun _ => fun
  | [d1, d2] => { results := [.lit (.bool false)], args := [d1, d2] }
  | _ => none }
def PacerPaysWrongFalsely : Prop := pacerPaysRow.holds Try.pinned (OpenSpec.ofChange pacerPaysWrong)

/- THE SECOND FORM. 'bulk': how many values and letters a reading holds, each counted each time it is reached (what is shared counts as often as it is met; a slice's spare places count too). A statement '..UptoSaid' is the law's where the arguments, and the package variables that the reading takes, are together of bulk at most 1048576: NARROWER than '..Said'. Prove '..Said' where nothing that the law and all that it calls make is longer than what came in: it says more and counts as full. Else prove '..UptoSaid'. A law counts once. -/
mutual
def uptoBulk {H : Type} : DataW H → Nat
  | .lit (.string bytes) => bytes.length + 1
  | .lit _ => 1
  | .nil => 1
  | .ptr d => uptoBulk d + 1
  | .slice elems spare => uptoBulkAll elems + uptoBulkAll spare + 1
  | .agg parts => uptoBulkAll parts + 1
  | .iface _ d => uptoBulk d + 1
  | .map entries => uptoBulkEntries entries + 1
  | .held _ => 1
def uptoBulkAll {H : Type} : List (DataW H) → Nat
  | [] => 0
  | d :: r => uptoBulk d + uptoBulkAll r
def uptoBulkEntries {H : Type} : List (Lit × DataW H) → Nat
  | [] => 0
  | x :: r => uptoBulkEntry x + uptoBulkEntries r
def uptoBulkEntry {H : Type} : Lit × DataW H → Nat
  | (.string bytes, d) => bytes.length + uptoBulk d + 1
  | (_, d) => uptoBulk d + 1
 end
def uptoSmall : (H : Type) → List (DataW H) → Bool := fun _ ds => decide (uptoBulkAll ds ≤ 1048576)
def OpenSpec.upto (s : _root_.Go.ChangeSpec) : _root_.Go.OpenSpec := { _root_.Go.OpenSpec.ofChange s with cond := some uptoSmall }

/-- 'treadmilllaw23.PacerSteps', WHERE WHAT IT READS IS OF BULK AT MOST 1048576: true; the input reads as it did. -/
def pacerStepsUptoRow : OpenClaim := { program := "ytbbhgcabebjlhaa", sum := "63cedfc9d8685c4e189e2f353a2c7f33e5bc48638592706d78bcf54cab3a280a", func := "treadmill/treadmilllaw23.PacerSteps", spec := "pacerSteps", inPlace := ["math/bits.Add64"], unfollowed := true, recurses := true, named := ["math/bits.divideError", "math/bits.overflowError"], apart := false, narrowed := true }
def PacerStepsUptoSaid : Prop := pacerStepsUptoRow.holds Try.pinned (OpenSpec.upto pacerStepsSpec)

/-- 'treadmilllaw23.PacerOrder', WHERE WHAT IT READS IS OF BULK AT MOST 1048576: true; the input reads as it did. -/
def pacerOrderUptoRow : OpenClaim := { program := "ytbbhgcabebjlhaa", sum := "63cedfc9d8685c4e189e2f353a2c7f33e5bc48638592706d78bcf54cab3a280a", func := "treadmill/treadmilllaw23.PacerOrder", spec := "pacerOrder", inPlace := ["math/bits.Add64"], unfollowed := true, recurses := true, named := ["math/bits.divideError", "math/bits.overflowError"], apart := false, narrowed := true }
def PacerOrderUptoSaid : Prop := pacerOrderUptoRow.holds Try.pinned (OpenSpec.upto pacerOrderSpec)

/-- 'treadmilllaw23.PacerEdges', WHERE WHAT IT READS IS OF BULK AT MOST 1048576: true; the input reads as it did. -/
def pacerEdgesUptoRow : OpenClaim := { program := "ytbbhgcabebjlhaa", sum := "63cedfc9d8685c4e189e2f353a2c7f33e5bc48638592706d78bcf54cab3a280a", func := "treadmill/treadmilllaw23.PacerEdges", spec := "pacerEdges", inPlace := ["math/bits.Add64"], unfollowed := true, recurses := true, named := ["math/bits.divideError", "math/bits.overflowError"], apart := false, narrowed := true }
def PacerEdgesUptoSaid : Prop := pacerEdgesUptoRow.holds Try.pinned (OpenSpec.upto pacerEdgesSpec)

/-- 'treadmilllaw23.PacerPays', WHERE WHAT IT READS IS OF BULK AT MOST 1048576: true; the input reads as it did. -/
def pacerPaysUptoRow : OpenClaim := { program := "ytbbhgcabebjlhaa", sum := "63cedfc9d8685c4e189e2f353a2c7f33e5bc48638592706d78bcf54cab3a280a", func := "treadmill/treadmilllaw23.PacerPays", spec := "pacerPays", inPlace := ["math/bits.Add64"], unfollowed := true, recurses := true, named := ["math/bits.divideError", "math/bits.overflowError"], apart := false, narrowed := true }
def PacerPaysUptoSaid : Prop := pacerPaysUptoRow.holds Try.pinned (OpenSpec.upto pacerPaysSpec)

end Rows
end Go.Proofs.Ytbbhgcabebjlhaa
