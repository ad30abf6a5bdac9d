/-
  No cell of these rows narrows 'for every input' (looked for: loops, veiled, ifaces, maps, wideKeys, modest, calm, conditions, laid).
  DERIVED. THE GIVEN ROWS OF THIS SEAT. 4 by the template 'for every input the law returns true; each argument reads behind the call as it read before'; 0 by the template 'total and deterministic' (their statements: YtlandgfmdhcjmaaTotals.lean).
  GIVEN WITH THE SEED: the statements are not yours to turn. If you find one false, say at which input.
  Laid BY PROGRAM, IN A SANDBOX (cutbox-rows.mjs): the forced cells as the released guide's own fill.sh prints them over the translation 3ce1689ee3055f3b… (all of the seat's roots in one cut). By AI agents, Wed Nov 11 2026. No macro, syntax, notation, axiom, sorry.
-/
import Derived.Test.YtlandgfmdhcjmaaChecked
import GoSem.Claim
import GoSem.ClaimJoined
import GoSem.ClaimMapViews
import Derived.JoinedTies
import Derived.KernelRfl
namespace Go.Proofs.Ytlandgfmdhcjmaa
/- THE CELL 'sum', in the pinned program and in every row, IS THE sha256 OF THE DUMP (.gsa) THAT YtlandgfmdhcjmaaProg.lean LOADS. Nothing in Lean hashes anything: it is a label: what it is worth is what the hold of that sum in a sandbox is worth. -/
noncomputable def Try.pinned : Pinned := { name := "ytlandgfmdhcjmaa", sum := "3ce1689ee3055f3bbb82531ded1397ed8f945e42c6a64d4bcc3c4fdddf442c27", checked := Try.checked }
namespace Rows
def none {H : Type} : Left H := { results := [], args := [] }

/-- 'treadmilllaw2.ConfOrder': WHATEVER THE INPUT: true; the input reads as it did. -/
def confOrderSpec : ChangeSpec := { name := "confOrder", fn := fun _ => fun
  | [d1, d2] => { results := [.lit (.bool true)], args := [d1, d2] }
  | _ => none }
def confOrderRow : OpenClaim := { program := "ytlandgfmdhcjmaa", sum := "3ce1689ee3055f3bbb82531ded1397ed8f945e42c6a64d4bcc3c4fdddf442c27", func := "treadmill/treadmilllaw2.ConfOrder", spec := "confOrder", inPlace := ["math.Float64bits", "math.Float64frombits", "math.archFloor", "math.archTrunc"], apart := false }
def ConfOrderSaid : Prop := confOrderRow.holds Try.pinned (OpenSpec.ofChange confOrderSpec)

/-- ITS FALSE NEIGHBOUR: 'it returns false'. Refute it at one input. -/
def confOrderWrong : ChangeSpec := { name := "confOrder", fn := fun _ => fun
  | [d1, d2] => { results := [.lit (.bool false)], args := [d1, d2] }
  | _ => none }
def ConfOrderWrongFalsely : Prop := confOrderRow.holds Try.pinned (OpenSpec.ofChange confOrderWrong)

/-- 'treadmilllaw2.ConfBounds': WHATEVER THE INPUT: true; the input reads as it did. -/
def confBoundsSpec : ChangeSpec := { name := "confBounds", fn := fun _ => fun
  | [d1, d2, d3] => { results := [.lit (.bool true)], args := [d1, d2, d3] }
  | _ => none }
def confBoundsRow : OpenClaim := { program := "ytlandgfmdhcjmaa", sum := "3ce1689ee3055f3bbb82531ded1397ed8f945e42c6a64d4bcc3c4fdddf442c27", func := "treadmill/treadmilllaw2.ConfBounds", spec := "confBounds", inPlace := ["math.Float64bits", "math.Float64frombits", "math.archFloor", "math.archTrunc"], apart := false }
def ConfBoundsSaid : Prop := confBoundsRow.holds Try.pinned (OpenSpec.ofChange confBoundsSpec)

/-- ITS FALSE NEIGHBOUR: 'it returns false'. Refute it at one input. -/
def confBoundsWrong : ChangeSpec := { name := "confBounds", fn := fun _ => fun
  | [d1, d2, d3] => { results := [.lit (.bool false)], args := [d1, d2, d3] }
  | _ => none }
def ConfBoundsWrongFalsely : Prop := confBoundsRow.holds Try.pinned (OpenSpec.ofChange confBoundsWrong)

/-- 'treadmilllaw2.ConfWholes': WHATEVER THE INPUT: true; the input reads as it did. -/
def confWholesSpec : ChangeSpec := { name := "confWholes", fn := fun _ => fun
  | [d1, d2] => { results := [.lit (.bool true)], args := [d1, d2] }
  | _ => none }
def confWholesRow : OpenClaim := { program := "ytlandgfmdhcjmaa", sum := "3ce1689ee3055f3bbb82531ded1397ed8f945e42c6a64d4bcc3c4fdddf442c27", func := "treadmill/treadmilllaw2.ConfWholes", spec := "confWholes", inPlace := ["math.Float64bits", "math.Float64frombits", "math.archFloor", "math.archTrunc"], apart := false }
def ConfWholesSaid : Prop := confWholesRow.holds Try.pinned (OpenSpec.ofChange confWholesSpec)

/-- ITS FALSE NEIGHBOUR: 'it returns false'. Refute it at one input. -/
def confWholesWrong : ChangeSpec := { name := "confWholes", fn := fun _ => fun
  | [d1, d2] => { results := [.lit (.bool false)], args := [d1, d2] }
  | _ => none }
def ConfWholesWrongFalsely : Prop := confWholesRow.holds Try.pinned (OpenSpec.ofChange confWholesWrong)

/-- 'treadmilllaw2.ConfFloats': WHATEVER THE INPUT: true; the input reads as it did. -/
def confFloatsSpec : ChangeSpec := { name := "confFloats", fn := fun _ => fun
  | [d1, d2] => { results := [.lit (.bool true)], args := [d1, d2] }
  | _ => none }
def confFloatsRow : OpenClaim := { program := "ytlandgfmdhcjmaa", sum := "3ce1689ee3055f3bbb82531ded1397ed8f945e42c6a64d4bcc3c4fdddf442c27", func := "treadmill/treadmilllaw2.ConfFloats", spec := "confFloats", inPlace := ["math.Float64bits", "math.Float64frombits", "math.archFloor", "math.archTrunc"], apart := false }
def ConfFloatsSaid : Prop := confFloatsRow.holds Try.pinned (OpenSpec.ofChange confFloatsSpec)

/-- ITS FALSE NEIGHBOUR: 'it returns false'. Refute it at one input. -/
def confFloatsWrong : ChangeSpec := { name := "confFloats", fn := fun _ => fun
  | [d1, d2] => { results := [.lit (.bool false)], args := [d1, d2] }
  | _ => none }
def ConfFloatsWrongFalsely : Prop := confFloatsRow.holds Try.pinned (OpenSpec.ofChange confFloatsWrong)

/- THE SECOND FORM. 'bulk': how many values and letters a reading holds, each counted each time it is reached (what is shared counts as often as it is met; a slice's spare places count too). A statement '..UptoSaid' is the law's where the arguments, and the package variables that the reading takes, are together of bulk at most 1048576: NARROWER than '..Said'. Prove '..Said' where nothing that the law and all that it calls make is longer than what came in: it says more and counts as full. Else prove '..UptoSaid'. A law counts once. -/
mutual
def uptoBulk {H : Type} : DataW H → Nat
  | .lit (.string bytes) => bytes.length + 1
  | .lit _ => 1
  | .nil => 1
  | .ptr d => uptoBulk d + 1
  | .slice elems spare => uptoBulkAll elems + uptoBulkAll spare + 1
  | .agg parts => uptoBulkAll parts + 1
  | .iface _ d => uptoBulk d + 1
  | .map entries => uptoBulkEntries entries + 1
  | .held _ => 1
def uptoBulkAll {H : Type} : List (DataW H) → Nat
  | [] => 0
  | d :: r => uptoBulk d + uptoBulkAll r
def uptoBulkEntries {H : Type} : List (Lit × DataW H) → Nat
  | [] => 0
  | x :: r => uptoBulkEntry x + uptoBulkEntries r
def uptoBulkEntry {H : Type} : Lit × DataW H → Nat
  | (.string bytes, d) => bytes.length + uptoBulk d + 1
  | (_, d) => uptoBulk d + 1
 end
def uptoSmall : (H : Type) → List (DataW H) → Bool := fun _ ds => decide (uptoBulkAll ds ≤ 1048576)
def OpenSpec.upto (s : _root_.Go.ChangeSpec) : _root_.Go.OpenSpec := { _root_.Go.OpenSpec.ofChange s with cond := some uptoSmall }

/-- 'treadmilllaw2.ConfOrder', WHERE WHAT IT READS IS OF BULK AT MOST 1048576: true; the input reads as it did. -/
def confOrderUptoRow : OpenClaim := { program := "ytlandgfmdhcjmaa", sum := "3ce1689ee3055f3bbb82531ded1397ed8f945e42c6a64d4bcc3c4fdddf442c27", func := "treadmill/treadmilllaw2.ConfOrder", spec := "confOrder", inPlace := ["math.Float64bits", "math.Float64frombits", "math.archFloor", "math.archTrunc"], apart := false, narrowed := true }
def ConfOrderUptoSaid : Prop := confOrderUptoRow.holds Try.pinned (OpenSpec.upto confOrderSpec)

/-- 'treadmilllaw2.ConfBounds', WHERE WHAT IT READS IS OF BULK AT MOST 1048576: true; the input reads as it did. -/
def confBoundsUptoRow : OpenClaim := { program := "ytlandgfmdhcjmaa", sum := "3ce1689ee3055f3bbb82531ded1397ed8f945e42c6a64d4bcc3c4fdddf442c27", func := "treadmill/treadmilllaw2.ConfBounds", spec := "confBounds", inPlace := ["math.Float64bits", "math.Float64frombits", "math.archFloor", "math.archTrunc"], apart := false, narrowed := true }
def ConfBoundsUptoSaid : Prop := confBoundsUptoRow.holds Try.pinned (OpenSpec.upto confBoundsSpec)

/-- 'treadmilllaw2.ConfWholes', WHERE WHAT IT READS IS OF BULK AT MOST 1048576: true; the input reads as it did. -/
def confWholesUptoRow : OpenClaim := { program := "ytlandgfmdhcjmaa", sum := "3ce1689ee3055f3bbb82531ded1397ed8f945e42c6a64d4bcc3c4fdddf442c27", func := "treadmill/treadmilllaw2.ConfWholes", spec := "confWholes", inPlace := ["math.Float64bits", "math.Float64frombits", "math.archFloor", "math.archTrunc"], apart := false, narrowed := true }
def ConfWholesUptoSaid : Prop := confWholesUptoRow.holds Try.pinned (OpenSpec.upto confWholesSpec)

/-- 'treadmilllaw2.ConfFloats', WHERE WHAT IT READS IS OF BULK AT MOST 1048576: true; the input reads as it did. -/
def confFloatsUptoRow : OpenClaim := { program := "ytlandgfmdhcjmaa", sum := "3ce1689ee3055f3bbb82531ded1397ed8f945e42c6a64d4bcc3c4fdddf442c27", func := "treadmill/treadmilllaw2.ConfFloats", spec := "confFloats", inPlace := ["math.Float64bits", "math.Float64frombits", "math.archFloor", "math.archTrunc"], apart := false, narrowed := true }
def ConfFloatsUptoSaid : Prop := confFloatsUptoRow.holds Try.pinned (OpenSpec.upto confFloatsSpec)

end Rows
end Go.Proofs.Ytlandgfmdhcjmaa
